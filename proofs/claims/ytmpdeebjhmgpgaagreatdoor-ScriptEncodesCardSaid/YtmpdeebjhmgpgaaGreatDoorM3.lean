/- Part 3 of the proof. -/
import Derived.Test.YtmpdeebjhmgpgaaGreatDoorM2
import Derived.KernelRfl
set_option linter.all false
namespace Go.Shade
variable {H : Heap} {b lb n o r : Nat} {ex : Bool} {l : List Pr}
def rv (l:List Pr)(o n:Nat):List Pr:=l.take o++((l.drop o).take n).reverse++l.drop (o+n)
theorem rv_eq (h1:1<=n)(h:o+n<=l.length):revAt n l o (o+n - 1)=rv l o n:=by
 apply List.ext_getElem?;intro p;rw[revAt_get n l o (o+n - 1) (by omega) (by omega)];unfold rv;have l1:(l.take o).length=o:=by rw[List.length_take];omega
 have l2:((l.drop o).take n).length=n:=by rw[List.length_take,List.length_drop];omega
 rw[List.getElem?_append,List.getElem?_append];simp only[List.length_append,List.length_reverse,l1,l2];by_cases c1:p<o
 ·rw[if_neg (by omega),if_pos (by omega),if_pos c1,List.getElem?_take,if_pos c1]
 ·by_cases c2:p<o+n
  ·rw[if_pos (by omega),if_pos c2,if_neg c1,List.getElem?_reverse (by omega),l2,List.getElem?_take,if_pos (by omega),List.getElem?_drop]
   congr 1;omega
  ·rw[if_neg (by omega),if_neg c2,List.getElem?_drop]
   congr 1;omega
theorem rv_length (h:o+n<=l.length):(rv l o n).length=l.length:=by
 unfold rv;simp only[List.length_append,List.length_reverse,List.length_take,List.length_drop];omega
theorem rv_one (h:one2 l):one2 (rv l o n):=by
 intro p hp;unfold rv at hp;rcases List.mem_append.1 hp with hp | hp
 ·rcases List.mem_append.1 hp with hp | hp
  ·exact h p (List.mem_of_mem_take hp)
  ·exact h p (List.mem_of_mem_drop (List.mem_of_mem_take (List.mem_reverse.1 hp)))
 ·exact h p (List.mem_of_mem_drop hp)
theorem rv_mid (x m y:List Pr):rv (x++m++y) x.length m.length=x++m.reverse++y:=by
 unfold rv;simp[List.append_assoc,List.drop_append,List.take_append]
theorem rv_rot (x a b y:List Pr):rv (rv (rv (x++a++b++y) x.length a.length) (x.length+a.length) b.length) x.length (a.length+b.length)=x++b++a++y:=by
 have e1:rv (x++a++b++y) x.length a.length=x++a.reverse++b++y:=by
  have:=rv_mid x a (b++y)
  simpa[List.append_assoc]using this
 have e2:rv (x++a.reverse++b++y) (x.length+a.length) b.length=x++a.reverse++b.reverse++y:=by
  have:=rv_mid (x++a.reverse) b y
  simpa[List.append_assoc]using this
 have e3:rv (x++a.reverse++b.reverse++y) x.length (a.length+b.length)=x++b++a++y:=by
  have:=rv_mid x (a.reverse++b.reverse) y
  simpa[List.append_assoc]using this
 rw[e1,e2,e3]
section
variable {cal : FuncId -> Bool} {O : Oracle} {N : Nat}
def RevOk (O:Oracle)(f:FuncId):Prop:=∀(H:Heap) (b o n lb:Nat) (ex:Bool) (l:List Pr),H[b]? =some (.row (fl l) false)->one2 l->1<=n->o+n<=l.length->n<=1000000->O f [.slice b (2*o) n lb ex 2] H=some (.tuple [],H.set b (.row (fl (rv l o n)) false))
theorem rev_s (hN:1000000<N)(hb:H[b]? =some (.row (fl l) false))(h1:one2 l)(hn:1<=n)(hl:o+n<=l.length)(hle:n<=1000000):sRevS cal O N (.slice b (2*o) n lb ex 2) H=some (.tuple [],H.set b (.row (fl (rv l o n)) false)):=by
 unfold sRevS sRevC2S sRevC1S;rw[llen_slice,ob_some,lbin_sub,ob_some,wrap_i64 (by omega) (by omega),show((n:Nat):Int) - 1=((n - 1:Nat):Int) by omega];obtain⟨r,g1,g2⟩:=rev_go (cal:=cal) (O:=O) (lb:=lb) (ex:=ex) (by omega:n<4000000000000) n 0 (n - 1) N H l hb h1 (by omega) hl (by omega) (by omega);rw[show((0:Nat):Int)=0 from rfl]at g1;have e:revAt n l (o+0) (o+(n - 1))=rv l o n:=by rw[←rv_eq hn hl,Nat.add_zero];congr 1;omega
 rw[e]at g2;rw[←g2];exact g1
def rot (l:List Pr)(o n r:Nat):List Pr:=l.take o++(l.drop (o+r)).take (n - r)++(l.drop o).take r++l.drop (o+n)
theorem rot_eq (hr:r<=n)(h:o+n<=l.length):rv (rv (rv l o r) (o+r) (n - r)) o n=rot l o n r:=by
 have hl:l=l.take o++(l.drop o).take r++(l.drop (o+r)).take (n - r)++l.drop (o+n):=by
  have a1:l.drop (o+r)=(l.drop (o+r)).take (n - r)++l.drop (o+n):=by
   have:=(List.take_append_drop (n - r) (l.drop (o+r))).symm;rw[List.drop_drop,show o+r+(n - r)=o+n by omega]at this;exact this
  have a2:l.drop o=(l.drop o).take r++l.drop (o+r):=by
   have:=(List.take_append_drop r (l.drop o)).symm;rw[List.drop_drop]at this;exact this
  have a3:=(List.take_append_drop o l).symm;rw[a2,a1]at a3
  simpa[List.append_assoc]using a3
 have:=rv_rot (l.take o) ((l.drop o).take r) ((l.drop (o+r)).take (n - r)) (l.drop (o+n));have l1:(l.take o).length=o:=by rw[List.length_take];omega
 have l2:((l.drop o).take r).length=r:=by rw[List.length_take,List.length_drop];omega
 have l3:((l.drop (o+r)).take (n - r)).length=n - r:=by rw[List.length_take,List.length_drop];omega
 rw[l1,l2,l3,←hl,show r+(n - r)=n by omega]at this;rw[this];rfl
def RotOk (O:Oracle)(f:FuncId):Prop:=∀(H:Heap) (b o n lb r:Nat) (ex:Bool) (l:List Pr),H[b]? =some (.row (fl l) false)->one2 l->1<=r->r<n->n<=lb->o+n<=l.length->n<=1000000->O f [.slice b (2*o) n lb ex 2,.int .i64 (r:Nat)] H=some (.tuple [],H.set b (.row (fl (rot l o n r)) false))
theorem rotl_s {fr:FuncId}(hv:RevOk O fr)(hb:H[b]? =some (.row (fl l) false))(h1:one2 l)(hr:1<=r)(hrn:r<n)(hlb:n<=lb)(hl:o+n<=l.length)(hle:n<=1000000):sRolS cal O N fr (.slice b (2*o) n lb ex 2) (.int .i64 (r:Nat)) H=some (.tuple [],H.set b (.row (fl (rot l o n r)) false)):=by
 unfold sRolS;have s1:lslice H (.slice 2) (.slice b (2*o) n lb ex 2) none (some (.int .i64 (r:Nat))) none=some (.slice b (2*o) r lb ex 2):=by
  simp only[lslice,bnd,Option.bind_some];simp;omega
 have s2:∀K:Heap,lslice K (.slice 2) (.slice b (2*o) n lb ex 2) (some (.int .i64 (r:Nat))) none none=some (.slice b (2*(o+r)) (n - r) (lb - r) ex 2):=by
  intro K;simp only[lslice,bnd,Option.bind_some];simp;omega
 rw[s1,ob_some,hv H b o r lb ex l hb h1 hr (by omega) (by omega),ob_some];simp only;rw[s2,ob_some,hv _ b (o+r) (n - r) (lb - r) ex (rv l o r) (setAt hb) (rv_one h1) (by omega) (by rw[rv_length (by omega)];omega) (by omega),ob_some];simp only;rw[List.set_set,hv _ b o n lb ex (rv (rv l o r) (o+r) (n - r)) (setAt hb) (rv_one (rv_one h1)) (by omega) (by rw[rv_length (by rw[rv_length (by omega)];omega),rv_length (by omega)];exact hl) hle,ob_some];simp only;rw[List.set_set,rot_eq (by omega) hl]
theorem rotr_s {fl':FuncId}(hv:RotOk O fl')(hb:H[b]? =some (.row (fl l) false))(h1:one2 l)(hr:1<=r)(hrn:r<n)(hlb:n<=lb)(hl:o+n<=l.length)(hle:n<=1000000):sRorS cal O N fl' (.slice b (2*o) n lb ex 2) (.int .i64 (r:Nat)) H=some (.tuple [],H.set b (.row (fl (rot l o n (n - r))) false)):=by
 unfold sRorS;rw[llen_slice,ob_some,lbin_sub,ob_some,wrap_i64 (by omega) (by omega),show((n:Nat):Int) - ((r:Nat):Int)=((n - r:Nat):Int) by omega,hv H b o n lb (n - r) ex l hb h1 (by omega) (by omega) hlb hl hle,ob_some]
end
end Go.Shade
namespace Go.Shade
variable {k : KT (IV × Heap)}
def sInsXC0 (csRor:FuncId):LC:=.seq (.reg [
  ⟨(some 6),(.mv (.k .nilSlice)),none⟩]) (.seq (.reg [
  ⟨(some 10),(.mv (.t 0)),none⟩,
  ⟨(some 11),(.mv (.t 1)),none⟩,
  ⟨(some 12),(.slc (.slice 2) (.t 10) (some (.t 11)) none none),none⟩])
 (.seq (.reg [
  ⟨(some 13),(.mv (.t 2)),none⟩,
  ⟨(some 14),(.len .slice (.t 13)),none⟩,
  ⟨(some 7),(.mv (.t 14)),none⟩])
 (.seq (.seq (.reg [
  ⟨(some 15),(.mv (.t 7)),none⟩,
  ⟨(some 16),(.bin .eql (.t 15) (.k (.int .i64 0))),none⟩])
 (.cond (.t 16) (.seq (.reg [
  ⟨(some 17),(.mv (.t 0)),none⟩,
  ⟨(some 6),(.mv (.t 17)),none⟩])
 .ret)
 .skip))
 (.seq (.reg [
  ⟨(some 18),(.mv (.t 0)),none⟩,
  ⟨(some 19),(.len .slice (.t 18)),none⟩,
  ⟨(some 8),(.mv (.t 19)),none⟩])
 (.seq (.seq (.reg [
  ⟨(some 20),(.mv (.t 1)),none⟩,
  ⟨(some 21),(.mv (.t 8)),none⟩,
  ⟨(some 22),(.bin .eql (.t 20) (.t 21)),none⟩])
 (.cond (.t 22) (.seq (.reg [
  ⟨(some 23),(.mv (.t 0)),none⟩,
  ⟨(some 24),(.mv (.t 2)),none⟩,
  ⟨(some 25),(.app 2 24 (.t 23) (.t 24)),none⟩,
  ⟨(some 6),(.mv (.t 25)),none⟩])
 .ret)
 .skip))
 (.seq (.seq (.reg [
  ⟨(some 26),(.mv (.t 8)),none⟩,
  ⟨(some 27),(.mv (.t 7)),none⟩,
  ⟨(some 28),(.bin .add (.t 26) (.t 27)),none⟩,
  ⟨(some 29),(.mv (.t 0)),none⟩,
  ⟨(some 30),(.cap (.t 29)),none⟩,
  ⟨(some 31),(.bin .gtr (.t 28) (.t 30)),none⟩])
 (.cond (.t 31) (.seq (.reg [
  ⟨(some 32),(.mv (.t 0)),none⟩,
  ⟨(some 33),(.mv (.t 1)),none⟩,
  ⟨(some 34),(.slc (.slice 2) (.t 32) none (some (.t 33)) none),none⟩,
  ⟨(some 35),(.mv (.t 8)),none⟩,
  ⟨(some 36),(.mv (.t 7)),none⟩,
  ⟨(some 37),(.bin .add (.t 35) (.t 36)),none⟩,
  ⟨(some 38),(.mv (.t 1)),none⟩,
  ⟨(some 39),(.bin .sub (.t 37) (.t 38)),none⟩,
  ⟨(some 40),(.appz 2 24 [(.str []),(.int .i64 0)] (.t 34) (.t 39)),none⟩,
  ⟨(some 9),(.mv (.t 40)),none⟩])
 (.seq (.reg [
  ⟨(some 41),(.mv (.t 9)),none⟩,
  ⟨(some 42),(.mv (.t 1)),none⟩,
  ⟨(some 43),(.slc (.slice 2) (.t 41) (some (.t 42)) none none),none⟩,
  ⟨(some 44),(.mv (.t 2)),none⟩,
  ⟨(some 45),(.cpy 2 (.t 43) (.t 44)),none⟩])
 (.seq (.drw [
  ⟨(some 46),(.mv (.t 9)),none⟩,
  ⟨(some 47),(.mv (.t 1)),none⟩,
  ⟨(some 48),(.mv (.t 7)),none⟩,
  ⟨(some 49),(.bin .add (.t 47) (.t 48)),none⟩,
  ⟨(some 50),(.slc (.slice 2) (.t 46) (some (.t 49)) none none),none⟩,
  ⟨(some 51),(.mv (.t 0)),none⟩,
  ⟨(some 52),(.mv (.t 1)),none⟩,
  ⟨(some 53),(.slc (.slice 2) (.t 51) (some (.t 52)) none none),none⟩,
  ⟨(some 54),(.cpy 2 (.t 50) (.t 53)),none⟩] [])
 (.seq (.reg [
  ⟨(some 55),(.mv (.t 9)),none⟩,
  ⟨(some 6),(.mv (.t 55)),none⟩])
 .ret))))
 .skip))
 (.reg [
  ⟨(some 56),(.mv (.t 0)),none⟩,
  ⟨(some 57),(.mv (.t 8)),none⟩,
  ⟨(some 58),(.mv (.t 7)),none⟩,
  ⟨(some 59),(.bin .add (.t 57) (.t 58)),none⟩,
  ⟨(some 60),(.slc (.slice 2) (.t 56) none (some (.t 59)) none),none⟩,
  ⟨(some 0),(.mv (.t 60)),none⟩])))))))
def sInsXC1 (csRor:FuncId):LC:=.seq (.drw [
  ⟨(some 69),(.mv (.t 0)),none⟩,
  ⟨(some 70),(.mv (.t 1)),none⟩,
  ⟨(some 71),(.mv (.t 7)),none⟩,
  ⟨(some 72),(.bin .add (.t 70) (.t 71)),none⟩,
  ⟨(some 73),(.slc (.slice 2) (.t 69) (some (.t 72)) none none),none⟩,
  ⟨(some 74),(.mv (.t 0)),none⟩,
  ⟨(some 75),(.mv (.t 1)),none⟩,
  ⟨(some 76),(.slc (.slice 2) (.t 74) (some (.t 75)) none none),none⟩,
  ⟨(some 77),(.cpy 2 (.t 73) (.t 76)),none⟩] []) (.seq (.reg [
  ⟨(some 78),(.mv (.t 0)),none⟩,
  ⟨(some 79),(.mv (.t 1)),none⟩,
  ⟨(some 80),(.slc (.slice 2) (.t 78) (some (.t 79)) none none),none⟩,
  ⟨(some 81),(.mv (.t 2)),none⟩,
  ⟨(some 82),(.cpy 2 (.t 80) (.t 81)),none⟩])
 (.seq (.reg [
  ⟨(some 83),(.mv (.t 0)),none⟩,
  ⟨(some 6),(.mv (.t 83)),none⟩])
 .ret))
def sInsXC2 (csRor:FuncId):LC:=.seq (.reg [
  ⟨(some 84),(.mv (.t 0)),none⟩,
  ⟨(some 85),(.mv (.t 8)),none⟩,
  ⟨(some 86),(.slc (.slice 2) (.t 84) (some (.t 85)) none none),none⟩,
  ⟨(some 87),(.mv (.t 2)),none⟩,
  ⟨(some 88),(.cpy 2 (.t 86) (.t 87)),none⟩]) (.seq (.reg [
  ⟨(some 89),(.mv (.t 0)),none⟩,
  ⟨(some 90),(.mv (.t 1)),none⟩,
  ⟨(some 91),(.slc (.slice 2) (.t 89) (some (.t 90)) none none),none⟩,
  ⟨(some 92),(.mv (.t 7)),none⟩,
  ⟨(some 93),(.callF csRor [(.t 91),(.t 92)]),none⟩])
 (.seq (.reg [
  ⟨(some 94),(.mv (.t 0)),none⟩,
  ⟨(some 6),(.mv (.t 94)),none⟩])
 .ret))
def sInsXC1S (cal:FuncId->Bool)(O:Oracle)(N:Nat)(csRor:FuncId)(v0 v1 v2 v7 v8:IV)(H:Heap):Option (IV×Heap) :=
  ob (lbin .add v1 v7) fun t1 =>
  ob (lslice H (.slice 2) v0 (some t1) none none) fun t2 =>
  ob (lslice H (.slice 2) v0 (some v1) none none) fun t3 =>
  ob (lcpy H 2 t2 t3) fun r4 =>
  ob (lslice r4.2 (.slice 2) v0 (some v1) none none) fun t5 =>
  ob (lcpy r4.2 2 t5 v2) fun r6 =>
  some ((.tuple [v0,v0,v1,v2,v7,v8]),r6.2)
theorem sInsXC1Eq (cal:FuncId->Bool)(O:Oracle)(N:Nat)(csRor:FuncId)(hR:∀E H,k .ret E H=resK [(.tmp 6),(.tmp 0),(.tmp 1),(.tmp 2),(.tmp 7),(.tmp 8)] [] E H):∀(E:Sg) (H:Heap),lxK cal O N (sInsXC1 csRor) E H k=sInsXC1S cal O N csRor (lk E 0) (lk E 1) (lk E 2) (lk E 7) (lk E 8) H:=by
 have hk:k=(kR (resK [(.tmp 6),(.tmp 0),(.tmp 1),(.tmp 2),(.tmp 7),(.tmp 8)] []) k):=(kR_mk hR rfl);intro E H;rw[hk];show lxK cal O N (.drw [
  ⟨(some 69),(.mv (.t 0)),none⟩,
  ⟨(some 70),(.mv (.t 1)),none⟩,
  ⟨(some 71),(.mv (.t 7)),none⟩,
  ⟨(some 72),(.bin .add (.t 70) (.t 71)),none⟩,
  ⟨(some 73),(.slc (.slice 2) (.t 69) (some (.t 72)) none none),none⟩,
  ⟨(some 74),(.mv (.t 0)),none⟩,
  ⟨(some 75),(.mv (.t 1)),none⟩,
  ⟨(some 76),(.slc (.slice 2) (.t 74) (some (.t 75)) none none),none⟩,
  ⟨(some 77),(.cpy 2 (.t 73) (.t 76)),none⟩] []) E H (seqK (lxK cal O N (.seq (.reg [
  ⟨(some 78),(.mv (.t 0)),none⟩,
  ⟨(some 79),(.mv (.t 1)),none⟩,
  ⟨(some 80),(.slc (.slice 2) (.t 78) (some (.t 79)) none none),none⟩,
  ⟨(some 81),(.mv (.t 2)),none⟩,
  ⟨(some 82),(.cpy 2 (.t 80) (.t 81)),none⟩])
 (.seq (.reg [
  ⟨(some 83),(.mv (.t 0)),none⟩,
  ⟨(some 6),(.mv (.t 83)),none⟩])
 .ret))) (kR (resK [(.tmp 6),(.tmp 0),(.tmp 1),(.tmp 2),(.tmp 7),(.tmp 8)] []) k))=_
 kernel_rfl
def sInsXC2S (cal:FuncId->Bool)(O:Oracle)(N:Nat)(csRor:FuncId)(v0 v1 v2 v7 v8:IV)(H:Heap):Option (IV×Heap) :=
  ob (lslice H (.slice 2) v0 (some v8) none none) fun t1 =>
  ob (lcpy H 2 t1 v2) fun r2 =>
  ob (lslice r2.2 (.slice 2) v0 (some v1) none none) fun t3 =>
  ob (O csRor [t3,v7] r2.2) fun r4 =>
  some ((.tuple [v0,v0,v1,v2,v7,v8]),r4.2)
theorem sInsXC2Eq (cal:FuncId->Bool)(O:Oracle)(N:Nat)(csRor:FuncId)(hR:∀E H,k .ret E H=resK [(.tmp 6),(.tmp 0),(.tmp 1),(.tmp 2),(.tmp 7),(.tmp 8)] [] E H):∀(E:Sg) (H:Heap),lxK cal O N (sInsXC2 csRor) E H k=sInsXC2S cal O N csRor (lk E 0) (lk E 1) (lk E 2) (lk E 7) (lk E 8) H:=by
 have hk:k=(kR (resK [(.tmp 6),(.tmp 0),(.tmp 1),(.tmp 2),(.tmp 7),(.tmp 8)] []) k):=(kR_mk hR rfl);intro E H;rw[hk];show lxK cal O N (.reg [
  ⟨(some 84),(.mv (.t 0)),none⟩,
  ⟨(some 85),(.mv (.t 8)),none⟩,
  ⟨(some 86),(.slc (.slice 2) (.t 84) (some (.t 85)) none none),none⟩,
  ⟨(some 87),(.mv (.t 2)),none⟩,
  ⟨(some 88),(.cpy 2 (.t 86) (.t 87)),none⟩]) E H (seqK (lxK cal O N (.seq (.reg [
  ⟨(some 89),(.mv (.t 0)),none⟩,
  ⟨(some 90),(.mv (.t 1)),none⟩,
  ⟨(some 91),(.slc (.slice 2) (.t 89) (some (.t 90)) none none),none⟩,
  ⟨(some 92),(.mv (.t 7)),none⟩,
  ⟨(some 93),(.callF csRor [(.t 91),(.t 92)]),none⟩])
 (.seq (.reg [
  ⟨(some 94),(.mv (.t 0)),none⟩,
  ⟨(some 6),(.mv (.t 94)),none⟩])
 .ret))) (kR (resK [(.tmp 6),(.tmp 0),(.tmp 1),(.tmp 2),(.tmp 7),(.tmp 8)] []) k))=_
 kernel_rfl
def sInsXC0S (cal:FuncId->Bool)(O:Oracle)(N:Nat)(csRor:FuncId)(gN:IV->IV->IV->IV->IV->IV->Heap->Option (IV×Heap))(v0 v1 v2 v8 v68:IV)(H:Heap):Option (IV×Heap) :=
  ob (lslice H (.slice 2) v0 (some v1) none none) fun t1 =>
  ob (llen H .slice v2) fun t2 =>
  ob (lbin .eql t2 (.int .i64 0)) fun t3 =>
  cnd t3
  (some ((.tuple [v0,v0,v1,v2,t2,v8]),H))
  (ob (llen H .slice v0) fun t4 =>
  ob (lbin .eql v1 t4) fun t5 =>
  cnd t5
  (ob (lapp H 2 24 v0 v2) fun r6 =>
  some ((.tuple [r6.1,v0,v1,v2,t2,t4]),r6.2))
  (ob (lbin .add t4 t2) fun t7 =>
  ob (lcapV H v0) fun r8 =>
  ob (lbin .gtr t7 r8.1) fun t9 =>
  cnd t9
  (ob (lslice r8.2 (.slice 2) v0 none (some v1) none) fun t10 =>
  ob (lbin .add t4 t2) fun t11 =>
  ob (lbin .sub t11 v1) fun t12 =>
  ob (lappzV r8.2 2 24 [(.str []),(.int .i64 0)] t10 t12) fun r13 =>
  ob (lslice r13.2 (.slice 2) r13.1 (some v1) none none) fun t14 =>
  ob (lcpy r13.2 2 t14 v2) fun r15 =>
  ob (lbin .add v1 t2) fun t16 =>
  ob (lslice r15.2 (.slice 2) r13.1 (some t16) none none) fun t17 =>
  ob (lslice r15.2 (.slice 2) v0 (some v1) none none) fun t18 =>
  ob (lcpy r15.2 2 t17 t18) fun r19 =>
  some ((.tuple [r13.1,v0,v1,v2,t2,t4]),r19.2))
  (ob (lbin .add t4 t2) fun t20 =>
  ob (lslice r8.2 (.slice 2) v0 none (some t20) none) fun t21 =>
  gN t21 v1 v2 t2 t4 v68 r8.2)))
theorem sInsXC0Eq (cal:FuncId->Bool)(O:Oracle)(N:Nat)(csRor:FuncId)(gN:IV->IV->IV->IV->IV->IV->Heap->Option (IV×Heap))(hgN:∀E H,k .normal E H=gN (lk E 0) (lk E 1) (lk E 2) (lk E 7) (lk E 8) (lk E 68) H)(hR:∀E H,k .ret E H=resK [(.tmp 6),(.tmp 0),(.tmp 1),(.tmp 2),(.tmp 7),(.tmp 8)] [] E H):∀(E:Sg) (H:Heap),lxK cal O N (sInsXC0 csRor) E H k=sInsXC0S cal O N csRor gN (lk E 0) (lk E 1) (lk E 2) (lk E 8) (lk E 68) H:=by
 have hk:k=(kN (fun E H=>gN (lk E 0) (lk E 1) (lk E 2) (lk E 7) (lk E 8) (lk E 68) H) (kR (resK [(.tmp 6),(.tmp 0),(.tmp 1),(.tmp 2),(.tmp 7),(.tmp 8)] []) k)):=(kN_mk hgN (kR_mk hR rfl));intro E H;rw[hk];show lxK cal O N (.reg [
  ⟨(some 6),(.mv (.k .nilSlice)),none⟩]) E H (seqK (lxK cal O N (.seq (.reg [
  ⟨(some 10),(.mv (.t 0)),none⟩,
  ⟨(some 11),(.mv (.t 1)),none⟩,
  ⟨(some 12),(.slc (.slice 2) (.t 10) (some (.t 11)) none none),none⟩])
 (.seq (.reg [
  ⟨(some 13),(.mv (.t 2)),none⟩,
  ⟨(some 14),(.len .slice (.t 13)),none⟩,
  ⟨(some 7),(.mv (.t 14)),none⟩])
 (.seq (.seq (.reg [
  ⟨(some 15),(.mv (.t 7)),none⟩,
  ⟨(some 16),(.bin .eql (.t 15) (.k (.int .i64 0))),none⟩])
 (.cond (.t 16) (.seq (.reg [
  ⟨(some 17),(.mv (.t 0)),none⟩,
  ⟨(some 6),(.mv (.t 17)),none⟩])
 .ret)
 .skip))
 (.seq (.reg [
  ⟨(some 18),(.mv (.t 0)),none⟩,
  ⟨(some 19),(.len .slice (.t 18)),none⟩,
  ⟨(some 8),(.mv (.t 19)),none⟩])
 (.seq (.seq (.reg [
  ⟨(some 20),(.mv (.t 1)),none⟩,
  ⟨(some 21),(.mv (.t 8)),none⟩,
  ⟨(some 22),(.bin .eql (.t 20) (.t 21)),none⟩])
 (.cond (.t 22) (.seq (.reg [
  ⟨(some 23),(.mv (.t 0)),none⟩,
  ⟨(some 24),(.mv (.t 2)),none⟩,
  ⟨(some 25),(.app 2 24 (.t 23) (.t 24)),none⟩,
  ⟨(some 6),(.mv (.t 25)),none⟩])
 .ret)
 .skip))
 (.seq (.seq (.reg [
  ⟨(some 26),(.mv (.t 8)),none⟩,
  ⟨(some 27),(.mv (.t 7)),none⟩,
  ⟨(some 28),(.bin .add (.t 26) (.t 27)),none⟩,
  ⟨(some 29),(.mv (.t 0)),none⟩,
  ⟨(some 30),(.cap (.t 29)),none⟩,
  ⟨(some 31),(.bin .gtr (.t 28) (.t 30)),none⟩])
 (.cond (.t 31) (.seq (.reg [
  ⟨(some 32),(.mv (.t 0)),none⟩,
  ⟨(some 33),(.mv (.t 1)),none⟩,
  ⟨(some 34),(.slc (.slice 2) (.t 32) none (some (.t 33)) none),none⟩,
  ⟨(some 35),(.mv (.t 8)),none⟩,
  ⟨(some 36),(.mv (.t 7)),none⟩,
  ⟨(some 37),(.bin .add (.t 35) (.t 36)),none⟩,
  ⟨(some 38),(.mv (.t 1)),none⟩,
  ⟨(some 39),(.bin .sub (.t 37) (.t 38)),none⟩,
  ⟨(some 40),(.appz 2 24 [(.str []),(.int .i64 0)] (.t 34) (.t 39)),none⟩,
  ⟨(some 9),(.mv (.t 40)),none⟩])
 (.seq (.reg [
  ⟨(some 41),(.mv (.t 9)),none⟩,
  ⟨(some 42),(.mv (.t 1)),none⟩,
  ⟨(some 43),(.slc (.slice 2) (.t 41) (some (.t 42)) none none),none⟩,
  ⟨(some 44),(.mv (.t 2)),none⟩,
  ⟨(some 45),(.cpy 2 (.t 43) (.t 44)),none⟩])
 (.seq (.drw [
  ⟨(some 46),(.mv (.t 9)),none⟩,
  ⟨(some 47),(.mv (.t 1)),none⟩,
  ⟨(some 48),(.mv (.t 7)),none⟩,
  ⟨(some 49),(.bin .add (.t 47) (.t 48)),none⟩,
  ⟨(some 50),(.slc (.slice 2) (.t 46) (some (.t 49)) none none),none⟩,
  ⟨(some 51),(.mv (.t 0)),none⟩,
  ⟨(some 52),(.mv (.t 1)),none⟩,
  ⟨(some 53),(.slc (.slice 2) (.t 51) (some (.t 52)) none none),none⟩,
  ⟨(some 54),(.cpy 2 (.t 50) (.t 53)),none⟩] [])
 (.seq (.reg [
  ⟨(some 55),(.mv (.t 9)),none⟩,
  ⟨(some 6),(.mv (.t 55)),none⟩])
 .ret))))
 .skip))
 (.reg [
  ⟨(some 56),(.mv (.t 0)),none⟩,
  ⟨(some 57),(.mv (.t 8)),none⟩,
  ⟨(some 58),(.mv (.t 7)),none⟩,
  ⟨(some 59),(.bin .add (.t 57) (.t 58)),none⟩,
  ⟨(some 60),(.slc (.slice 2) (.t 56) none (some (.t 59)) none),none⟩,
  ⟨(some 0),(.mv (.t 60)),none⟩])))))))) (kN (fun E H=>gN (lk E 0) (lk E 1) (lk E 2) (lk E 7) (lk E 8) (lk E 68) H) (kR (resK [(.tmp 6),(.tmp 0),(.tmp 1),(.tmp 2),(.tmp 7),(.tmp 8)] []) k)))=_
 kernel_rfl
end Go.Shade
namespace Go.Shade
def gIns :IV->IV->IV->IV->IV->IV->Heap->Option (IV×Heap):=fun v0 v1 v2 v7 v8 v68 H=>some (.tuple [v0,v1,v2,v7,v8],H)
theorem one2_app {a b:List Pr}(h:one2 a)(k:one2 b):one2 (a++b):=fun p hp=>by
 rcases List.mem_append.1 hp with hp | hp
 ·exact h p hp
 ·exact k p hp
theorem one2_drop {a:List Pr}(h:one2 a)(n:Nat):one2 (a.drop n):=fun p hp=>h p (List.mem_of_mem_drop hp)
theorem lsl_p {H:Heap}{b o n lb k:Nat}{ex:Bool}{sz:Nat}{l:List Pr}(hb:H[b]? =some (.row (fl l) false))(hk:k<=n)(hl:o+k<=l.length):lsl H 2 (.slice b (2*o) n lb ex sz) k=some (fl ((l.drop o).take k)):=by
 simp only[lsl,if_pos hk];by_cases h0:k=0
 ·subst h0;simp[fl]
 ·rw[if_neg h0];simp only[irow,hb];rw[fl_length,if_pos (by omega),fl_drop,Nat.mul_comm k 2,fl_take]
theorem cpy_p {H:Heap}{b o nd lb k:Nat}{ex:Bool}{l new:List Pr}{x:IV}{nx:Nat}(hb:H[b]? =some (.row (fl l) false))(hx:xlen x=some nx)(hk:min nx nd=k)(h0:0<k)(hs:lxcells H 2 x k=some (fl new))(h1:one2 new)(hn:new.length=k)(hlb:0<lb)(ho:o+k<=l.length∨(o<=l.length/\l.length<o+k/\k<=lb)) :
  lcpy H 2 (.slice b (2*o) nd lb ex 2) x=some (.int .i64 (k:Nat),H.set b (.row (fl (l.take o++new++l.drop (o+k))) false)):=by
 unfold lcpy lcopy;have hd:xlen (.slice b (2*o) nd lb ex 2)=some nd:=rfl;simp only[hx,hd,Option.bind_some,hk];rw[if_neg (by omega),hs];simp only[Option.bind_some,hb];rw[if_pos ⟨fl_one h1,hlb⟩];have hfl:(fl new).length=2*k:=by rw[fl_length,hn]
 have hrow:cpyRow (fl l) (2*o) lb 2 2 (fl new)=some (fl (l.take o++new++l.drop (o+k))):=by
  unfold cpyRow;rw[hfl,fl_length];rcases ho with h | ⟨g1,g2,g3⟩
  ·rw[if_pos (by omega)]
   congr 1
   unfold putAt;split
   ·rename_i v hv;rw[hv]at hfl;simp at hfl;omega
   ·rw[hfl,show 2*o+2*k=2*(o+k) by omega,fl_take,fl_drop,fl_append,fl_append]
  ·rw[if_neg (by omega),if_pos ⟨by omega,rfl,by omega,by omega⟩]
   congr 1
   rw[fl_take,fl_append,fl_append,List.drop_eq_nil_of_le (by omega)];simp[fl]
 rw[hrow];rfl
end Go.Shade
namespace Go.Shade
variable {H : Heap} {b i n : Nat}
def ins (l:List Pr)(i:Nat)(e:Pr):List Pr:=l.take i++e::l.drop i
theorem fl1 (e:Pr):fl [e]=[e.1,e.2]:=rfl
theorem sl_from {o lb:Nat}{ex:Bool}(hi:i<=n)(hn:n<=lb):lslice H (.slice 2) (.slice b (2*o) n lb ex 2) (some (.int .i64 (i:Nat))) none none=some (.slice b (2*(o+i)) (n - i) (lb - i) ex 2):=by
 simp only[lslice,bnd,Option.bind_some];simp;omega
theorem sl_to {o lb:Nat}{ex:Bool}(hi:i<=lb):lslice H (.slice 2) (.slice b (2*o) n lb ex 2) none (some (.int .i64 (i:Nat))) none=some (.slice b (2*o) i lb ex 2):=by
 simp only[lslice,bnd,Option.bind_some];simp;omega
section
variable {cal : FuncId -> Bool} {O : Oracle} {N : Nat} {fr : FuncId}
def OneAt (H:Heap)(v:IV)(e:Pr):Prop:=llen H .slice v=some (.int .i64 1)/\xlen v=some 1/\lxcells H 2 v 1=some [e.1,e.2]
theorem ins_c1 {c:Nat}{l:List Pr}{v:IV}{e:Pr}{v8:IV}(hb:H[b]? =some (.row (fl l) false))(hl:l.length=n)(hin:i<n)(hc:n<c)(h1:one2 l)(he:e.1.one=true/\e.2.one=true)(hv:∀cs,OneAt (H.set b (.row cs false)) v e)(hn9:n<=1000000) :
  sInsXC1S cal O N fr (.slice b 0 (n+1) c true 2) (.int .i64 (i:Nat)) v (.int .i64 1) v8 H=some (.tuple [.slice b 0 (n+1) c true 2,.slice b 0 (n+1) c true 2,.int .i64 (i:Nat),v,.int .i64 1,v8],H.set b (.row (fl (ins l i e)) false)):=by
 unfold sInsXC1S;have z:(0:Nat)=2*0:=rfl;rw[lbin_add,ob_some,wrap_i64 (by omega) (by omega),show((i:Nat):Int)+1=((i+1:Nat):Int) by omega,z,sl_from (by omega) (by omega),ob_some,sl_from (by omega) (by omega),ob_some];simp only[Nat.zero_add];have hrd:lxcells H 2 (.slice b (2*i) (n+1 - i) (c - i) true 2) (n - i)=some (fl (l.drop i)):=by
  simp only[lxcells];rw[lsl_p hb (by omega) (by omega),List.take_of_length_le (by rw[List.length_drop];omega)]
 rw[cpy_p (k:=n - i) hb rfl (by omega) (by omega) hrd (one2_drop h1 i) (by rw[List.length_drop];omega) (by omega) (.inr ⟨by omega,by omega,by omega⟩),ob_some];simp only;rw[←z,show(0:Nat)=2*0 from rfl,sl_from (by omega) (by omega),ob_some];simp only[Nat.zero_add];rw[cpy_p (k:=1) (new:=[e]) (setAt hb) (hv (fl (l.take (i+1)++l.drop i++l.drop (i+1+(n - i))))).2.1 (by omega) (by omega) (hv (fl (l.take (i+1)++l.drop i++l.drop (i+1+(n - i))))).2.2 (fun p hp=>by rw[List.mem_singleton]at hp;subst hp;exact he) rfl (by omega) (.inl (by simp only[List.length_append,List.length_take,List.length_drop];omega)),ob_some];simp only;rw[List.set_set];have hfin:(l.take (i+1)++l.drop i++l.drop (i+1+(n - i))).take i++[e]++(l.take (i+1)++l.drop i++l.drop (i+1+(n - i))).drop (i+1)=ins l i e:=by
  have e1:l.drop (i+1+(n - i))=[]:=List.drop_eq_nil_of_le (by omega);rw[e1,List.append_nil];have l1:(l.take (i+1)).length=i+1:=by rw[List.length_take];omega
  rw[List.take_append_of_le_length (by omega),List.take_take,Nat.min_eq_left (by omega),List.drop_append_of_le_length (by omega),List.drop_eq_nil_of_le (by omega),List.nil_append];unfold ins;simp
 rw[hfin]
theorem ins_c2 (hr:∀(H:Heap) (b o n lb r:Nat) (ex:Bool) (l:List Pr),H[b]? =some (.row (fl l) false)->one2 l->1<=r->r<n->n<=lb->o+n<=l.length->n<=1000000->O fr [.slice b (2*o) n lb ex 2,.int .i64 (r:Nat)] H=some (.tuple [],H.set b (.row (fl (rot l o n (n - r))) false))) {H:Heap} {b n c i:Nat} {l:List Pr} {v:IV} {e:Pr} (hb:H[b]? =some (.row (fl l) false)) (hl:l.length=n) (hin:i<n) (hc:n<c) (h1:one2 l) (he:e.1.one=true/\e.2.one=true) (hv:∀cs,OneAt (H.set b (.row cs false)) v e) (hn9:n<1000000) :
  sInsXC2S cal O N fr (.slice b 0 (n+1) c true 2) (.int .i64 (i:Nat)) v (.int .i64 1) (.int .i64 (n:Nat)) H=some (.tuple [.slice b 0 (n+1) c true 2,.slice b 0 (n+1) c true 2,.int .i64 (i:Nat),v,.int .i64 1,.int .i64 (n:Nat)],H.set b (.row (fl (ins l i e)) false)):=by
 unfold sInsXC2S;have hv0:OneAt H v e:=by have:=hv (fl l);rwa [List.set_getElem?_self' hb]at this
 have o1:one2 (l++[e]):=one2_app h1 fun p hp=>by rw[List.mem_singleton]at hp;subst hp;exact he
 have z:(0:Nat)=2*0:=rfl;rw[z,sl_from (by omega) (by omega),ob_some];simp only[Nat.zero_add];rw[cpy_p (k:=1) (new:=[e]) hb hv0.2.1 (by omega) (by omega) hv0.2.2 (fun p hp=>by rw[List.mem_singleton]at hp;subst hp;exact he) rfl (by omega) (.inr ⟨by omega,by omega,by omega⟩),ob_some];simp only;have e1:l.take n++[e]++l.drop (n+1)=l++[e]:=by rw[List.take_of_length_le (by omega),List.drop_eq_nil_of_le (by omega),List.append_nil]
 rw[e1,←z,show(0:Nat)=2*0 from rfl,sl_from (by omega) (by omega),ob_some];simp only[Nat.zero_add];have:=hr (H.set b (.row (fl (l++[e])) false)) b i (n+1 - i) (c - i) 1 true (l++[e]) (setAt hb) o1 (by omega) (by omega) (by omega) (by simp;omega) (by omega);rw[show(((1:Nat):Int))=1 from rfl]at this;rw[this,ob_some];simp only;rw[List.set_set];have hfin:rot (l++[e]) i (n+1 - i) (n+1 - i - 1)=ins l i e:=by
  unfold rot ins;have q1:i+(n+1 - i - 1)=n:=by omega
  have q2:n+1 - i - (n+1 - i - 1)=1:=by omega
  have q3:i+(n+1 - i)=n+1:=by omega
  have a1:(l++[e]).take i=l.take i:=List.take_append_of_le_length (by omega);have a2:(l++[e]).drop n=[e]:=by rw[List.drop_append_of_le_length (by omega),List.drop_eq_nil_of_le (by omega),List.nil_append]
  have a3:(l++[e]).drop i=l.drop i++[e]:=List.drop_append_of_le_length (by omega);have a4:(l.drop i++[e]).take (n+1 - i - 1)=l.drop i:=by rw[List.take_append_of_le_length (by rw[List.length_drop];omega),List.take_of_length_le (by rw[List.length_drop];omega)]
  have a5:(l++[e]).drop (n+1)=[]:=List.drop_eq_nil_of_le (by simp;omega);rw[q1,q2,q3,a1,a2,a3,a4,a5];simp
 rw[hfin]
end
end Go.Shade
namespace Go.Shade
variable {H : Heap} {b n : Nat} {e : Pr} {v v68 v8 : IV}
section
variable {cal : FuncId -> Bool} {O : Oracle} {N : Nat} {fr : FuncId}
theorem ins_end {l:List Pr}(hb:H[b]? =some (.row (fl l) false))(hl:l.length=n)(h0:0<n)(h1:one2 l)(he:e.1.one=true/\e.2.one=true)(hv:OneAt H v e)(hn9:n<=1000000) :
  sInsXC0S cal O N fr gIns (.slice b 0 n n false 2) (.int .i64 (n:Nat)) v v8 v68 H=some (.tuple [.slice H.length 0 (n+1) (n+1) false 2,.slice b 0 n n false 2,.int .i64 (n:Nat),v,.int .i64 1,.int .i64 (n:Nat)],H.set b .dead++[.row (fl (ins l n e)) false]):=by
 unfold sInsXC0S;have z:(0:Nat)=2*0:=rfl;rw[z,sl_from (by omega) (by omega),ob_some,hv.1,ob_some,lbin_eql,ob_some,decide_eq_false (by omega),cnd_false,llen_slice,ob_some,lbin_eql,ob_some,decide_eq_true rfl,cnd_true];have hrd:lsl H 2 (.slice b (2*0) n n false 2) n=some (fl l):=by rw[lsl_p hb (by omega) (by omega),List.drop_zero,List.take_of_length_le (by omega)]
 have hins:ins l n e=l++[e]:=by unfold ins;rw[List.take_of_length_le (by omega),List.drop_eq_nil_of_le (by omega)]
 have happ:lapp H 2 24 (.slice b (2*0) n n false 2) v=some (.slice H.length 0 (n+1) (n+1) false 2,H.set b .dead++[.row (fl (ins l n e)) false]):=by
  unfold lapp lappend;simp only[hv.2.1,Option.bind_some];rw[if_neg (by omega),hv.2.2];simp only[Option.bind_some];rw[if_pos ⟨rfl,by simp[he.1,he.2]⟩,if_neg (by omega),hrd];simp only[Option.bind_some,Bool.false_eq_true,if_false,hb,if_true];unfold lfresh;rw[if_pos ⟨by omega,by simp[fl_length];omega⟩,hins,fl_append,fl1];simp
 rw[happ,ob_some]
theorem ins_nil (he:e.1.one=true/\e.2.one=true)(hv:OneAt H v e) :
  sInsXC0S cal O N fr gIns .nilSlice (.int .i64 0) v v8 v68 H=some (.tuple [.slice H.length 0 1 1 false 2,.nilSlice,.int .i64 0,v,.int .i64 1,.int .i64 0],H++[.row (fl [e]) false]):=by
 unfold sInsXC0S;have s1:lslice H (.slice 2) .nilSlice (some (.int .i64 0)) none none=some .nilSlice:=rfl;have s2:llen H .slice .nilSlice=some (.int .i64 0):=rfl;rw[s1,ob_some,hv.1,ob_some,lbin_eql,ob_some,decide_eq_false (by omega),cnd_false,s2,ob_some,lbin_eql,ob_some,decide_eq_true rfl,cnd_true];have happ:lapp H 2 24 .nilSlice v=some (.slice H.length 0 1 1 false 2,H++[.row (fl [e]) false]):=by
  unfold lapp lappend;simp only[hv.2.1,Option.bind_some];rw[if_neg (by omega),hv.2.2];simp only[Option.bind_some];rw[if_pos ⟨rfl,by simp[he.1,he.2]⟩];rfl
 rw[happ,ob_some]
theorem ins_room {c i:Nat}(hin:i<n)(hc:n<c)(hv:OneAt H v e)(hn9:n<=1000000) :
  sInsXC0S cal O N fr gIns (.slice b 0 n c true 2) (.int .i64 (i:Nat)) v v8 v68 H=some (.tuple [.slice b 0 (n+1) c true 2,.int .i64 (i:Nat),v,.int .i64 1,.int .i64 (n:Nat)],H):=by
 unfold sInsXC0S;have z:(0:Nat)=2*0:=rfl;have hcap:lcapV H (.slice b (2*0) n c true 2)=some (.int .i64 c,H):=rfl;rw[z,sl_from (by omega) (by omega),ob_some,hv.1,ob_some,lbin_eql,ob_some,decide_eq_false (by omega),cnd_false,llen_slice,ob_some,lbin_eql,ob_some,decide_eq_false (by omega),cnd_false,lbin_add,ob_some,wrap_i64 (by omega) (by omega),hcap,ob_some,lbin_gtr,ob_some,decide_eq_false (by omega),cnd_false,ob_some,show((n:Nat):Int)+1=((n+1:Nat):Int) by omega,sl_to (by omega),ob_some];rfl
theorem ins_grow {i:Nat}{l:List Pr}(hb:H[b]? =some (.row (fl l) false))(hl:l.length=n)(hin:i<n)(h1:one2 l)(he:e.1.one=true/\e.2.one=true)(hv:∀r:List IObj,OneAt (H++r) v e)(hn9:n<=1000000) :
  sInsXC0S cal O N fr gIns (.slice b 0 n n true 2) (.int .i64 (i:Nat)) v v8 v68 H=some (.tuple [.slice H.length 0 (n+1) (n+1) false 2,.slice b 0 n n true 2,.int .i64 (i:Nat),v,.int .i64 1,.int .i64 (n:Nat)],H++[.row (fl (ins l i e)) false]):=by
 unfold sInsXC0S;have hv0:OneAt H v e:=by have:=hv [];rwa [List.append_nil]at this
 have z:(0:Nat)=2*0:=rfl;have hcap:lcapV H (.slice b (2*0) n n true 2)=some (.int .i64 n,H):=rfl;rw[z,sl_from (by omega) (by omega),ob_some,hv0.1,ob_some,lbin_eql,ob_some,decide_eq_false (by omega),cnd_false,llen_slice,ob_some,lbin_eql,ob_some,decide_eq_false (by omega),cnd_false,lbin_add,ob_some,wrap_i64 (by omega) (by omega),hcap,ob_some,lbin_gtr,ob_some,decide_eq_true (by omega),cnd_true,sl_to (by omega),ob_some,ob_some,lbin_sub,ob_some,wrap_i64 (by omega) (by omega),show((n:Nat):Int)+1 - ((i:Nat):Int)=((n+1 - i:Nat):Int) by omega];have hrd:lsl H 2 (.slice b (2*0) i n true 2) i=some (fl (l.take i)):=by rw[lsl_p hb (by omega) (by omega),List.drop_zero]
 have hz:∀k,zrep k [(.str []),(.int .i64 0)]=fl (List.replicate k (.str [],.int .i64 0)):=by
  intro k
  induction k with
  | zero=>rfl
  | succ k ih=>simp only[zrep,List.replicate_succ,List.flatten_cons,fl]at ih ⊢;rw[ih];rfl
 have happ:lappzV H 2 24 [(.str []),(.int .i64 0)] (.slice b (2*0) i n true 2) (.int .i64 ((n+1 - i:Nat):Int))=some (.slice H.length (2*0) (n+1) (n+1) false 2,H++[.row (fl (l.take i++List.replicate (n+1 - i) (.str [],.int .i64 0))) false]):=by
  unfold lappzV lappz;simp only[Int.toNat_natCast];rw[if_pos (by omega),if_pos ⟨by omega,trivial⟩,hrd];simp only[Option.bind_some];have e1:i+(n+1 - i)=n+1:=by omega
  rw[e1,if_pos ⟨by omega,by rw[fl_length,List.length_take];omega⟩,hz,fl_append]
 rw[happ,ob_some];simp only;have hbn:=newRow (H:=H) (o:=IObj.row (fl (l.take i++List.replicate (n+1 - i) (.str [],.int .i64 0))) false);have hlen:(l.take i++List.replicate (n+1 - i) ((.str [],.int .i64 0):Pr)).length=n+1:=by simp;omega
 rw[sl_from (by omega) (by omega),ob_some];simp only[Nat.zero_add];have hv1:=hv [IObj.row (fl (l.take i++List.replicate (n+1 - i) (.str [],.int .i64 0))) false];rw[cpy_p (k:=1) (new:=[e]) hbn hv1.2.1 (by omega) (by omega) hv1.2.2 (fun p hp=>by rw[List.mem_singleton]at hp;subst hp;exact he) rfl (by omega) (.inl (by omega)),ob_some];simp only;rw[lbin_add,ob_some,wrap_i64 (by omega) (by omega),show((i:Nat):Int)+1=((i+1:Nat):Int) by omega,sl_from (by omega) (by omega),ob_some,sl_from (by omega) (by omega),ob_some];simp only[Nat.zero_add];rw[setRow];have hb2:(H++[IObj.row (fl ((l.take i++List.replicate (n+1 - i) ((.str [],.int .i64 0):Pr)).take i++[e]++(l.take i++List.replicate (n+1 - i) ((.str [],.int .i64 0):Pr)).drop (i+1))) false])[b]? =some (.row (fl l) false):=by
  rw[List.getElem?_append_left (ges hb).1];exact hb
 have hrd2:lxcells (H++[IObj.row (fl ((l.take i++List.replicate (n+1 - i) ((.str [],.int .i64 0):Pr)).take i++[e]++(l.take i++List.replicate (n+1 - i) ((.str [],.int .i64 0):Pr)).drop (i+1))) false]) 2 (.slice b (2*i) (n - i) (n - i) true 2) (n - i)=some (fl (l.drop i)):=by
  simp only[lxcells];rw[lsl_p hb2 (by omega) (by omega),List.take_of_length_le (by rw[List.length_drop];omega)]
 rw[cpy_p (k:=n - i) newRow rfl (by omega) (by omega) hrd2 (one2_drop h1 i) (by rw[List.length_drop];omega) (by omega) (.inl (by simp only[List.length_append,List.length_take,List.length_drop,List.length_cons,List.length_nil,List.length_replicate];omega)),ob_some];rw[setRow];have hfin:((l.take i++List.replicate (n+1 - i) ((.str [],.int .i64 0):Pr)).take i++[e]++(l.take i++List.replicate (n+1 - i) ((.str [],.int .i64 0):Pr)).drop (i+1)).take (i+1)++l.drop i++((l.take i++List.replicate (n+1 - i) ((.str [],.int .i64 0):Pr)).take i++[e]++(l.take i++List.replicate (n+1 - i) ((.str [],.int .i64 0):Pr)).drop (i+1)).drop (i+1+(n - i))=ins l i e:=by
  have q1:(l.take i++List.replicate (n+1 - i) ((.str [],.int .i64 0):Pr)).take i=l.take i:=by
   rw[List.take_append_of_le_length (by rw[List.length_take];omega),List.take_take,Nat.min_self]
  rw[q1];generalize hD:(l.take i++List.replicate (n+1 - i) ((.str [],.int .i64 0):Pr)).drop (i+1)=D;have hDl:D.length=n - i:=by rw[←hD,List.length_drop,hlen];omega
  have l1:(l.take i++[e]).length=i+1:=by simp;omega
  have a1:(l.take i++[e]++D).take (i+1)=l.take i++[e]:=by rw[List.take_append_of_le_length (by omega),List.take_of_length_le (by omega)]
  have a2:(l.take i++[e]++D).drop (i+1+(n - i))=[]:=List.drop_eq_nil_of_le (by rw[List.length_append];omega);rw[a1,a2];unfold ins;simp
 rw[hfin]
end
end Go.Shade
namespace Go.Shade
open Go.RowKit
def canon (h0:Nat)(o:IV×Heap):Option (IV×Heap) :=
 if Nat.ble h0 o.2.length&&(o.2.take h0).all (inBO h0)then
  match inB h0 o.1,o.1 with
  | true,v=>some (v,o.2.take h0)
  | false,.tuple (.slice q 0 n lb ex sz::vs)=>match o.2[q]? with
   | some (.row cs false)=>if Nat.ble h0 q&&(inBs h0 cs&&inBs h0 vs)then some (.tuple (.slice h0 0 n lb ex sz::vs),o.2.take h0++[.row cs false])else none
   | _=>none
  | _,_=>none
 else none
def wpick (h0:Nat):List (IV×Heap)->Option (IV×Heap)
 | []=>none
 | [o]=>some o
 | o::os=>match canon h0 o with
  | none=>none
  | some c=>if os.all (fun p=>match canon h0 p with
   | some d=>ivb d.1 c.1&&hpb d.2 c.2
   | none=>false)then some c else none
theorem canon_post {B0:Nat}{w0 w w':World}{m m':Mp}{H:Heap}{o c:IV×Heap}{u:Value}(hR:Rel B0 w0 m H w)(hext:Ext m m')(hR':Rel B0 w0 m' o.2 w')(hu:VR m' o.1 u)(hc:canon H.length o=some c) :
  ∃m'',Ext m m''/\Rel B0 w0 m'' c.2 w'/\VR m'' c.1 u:=by
 unfold canon at hc;split at hc
 ·rename_i hok;simp only[Bool.and_eq_true,List.all_eq_true]at hok;obtain⟨h1,h2⟩:=hok;have h1:=nble h1;have hlen:(o.2.take H.length).length=H.length:=by rw[List.length_take];omega
  have old:∀(i:Nat) x,(o.2.take H.length)[i]? =some x->i<H.length/\inBO H.length x=true/\o.2[i]? =some x:=by
   intro i x hi;have hm:=h2 x (List.mem_of_getElem? hi);rw[List.getElem?_take]at hi;split at hi
   ·rename_i hlt;exact⟨hlt,hm,hi⟩
   ·cases hi
  split at hc
  ·rename_i v hv
   cases hc
   refine⟨sub (o.2.take H.length).length id m',fun i l hi=> ?_,hR'.gc id (fun i x hi=> ?_) (fun _ _ _ _ h=>h),VR_ren _ u (by rw[hlen];exact hv) ?_⟩
   ·simp only[sub,hlen,if_pos (hR.dom i l hi)];exact hext i l hi
   ·obtain⟨a,b,d⟩:=old i x hi;rw[hlen];exact⟨b,by rw[renO_id (n:=H.length) (f:=id) (fun _ _=>rfl) b];exact d⟩
   ·rw[ren_id (n:=H.length) (f:=id) (fun _ _=>rfl) _ hv];exact hu
  ·rename_i q n lb ex sz vs hv he;rw[he]at hu;split at hc
   ·rename_i cs hq;split at hc
    ·rename_i hok
     cases hc
     simp only[Bool.and_eq_true]at hok;obtain⟨g1,g2,g3⟩:=hok;have g1:=nble g1;have hlK:(o.2.take H.length++[IObj.row cs false]).length=H.length+1:=by rw[List.length_append,hlen];rfl
     have hf:∀i,i<H.length->(fun i=>if i=H.length then q else i) i=i:=fun i hi=>if_neg (by omega);refine⟨sub (o.2.take H.length++[IObj.row cs false]).length (fun i=>if i=H.length then q else i) m',fun i l hi=> ?_,hR'.gc (fun i=>if i=H.length then q else i) (fun i x hi=> ?_) (fun i j hi hj hne=> ?_),VR_ren _ u ?_ ?_⟩
     ·have:=hR.dom i l hi;simp only[sub,hlK];rw[if_pos (by omega),if_neg (by omega)];exact hext i l hi
     ·rw[hlK];rw[List.getElem?_append]at hi;split at hi
      ·obtain⟨a,b,d⟩:=old i x hi;refine⟨inBO_le (by omega) b,?_⟩;rw[renO_id hf b];show o.2[if i=H.length then q else i]? =_;rw[if_neg (by omega)];exact d
      ·rename_i hge;rw[hlen]at hge hi;have hz:i - H.length=0:=by
        rcases Nat.eq_zero_or_pos (i - H.length)with e | e
        ·exact e
        ·rw[List.getElem?_eq_none (by simp;omega)]at hi;exact absurd hi (by simp)
       rw[hz]at hi;simp at hi;subst hi;have hi':i=H.length:=by omega
       subst hi';refine⟨inBs_le (by omega) cs g2,?_⟩;simp only[if_true,renO];rw[rens_id hf cs g2];exact hq
     ·rw[hlK]at hi hj;by_cases e1:i=H.length
      ·rw[if_pos e1,if_neg (by omega)];omega
      ·rw[if_neg e1];by_cases e2:j=H.length
       ·rw[if_pos e2];omega
       ·rw[if_neg e2];exact hne
     ·rw[hlK];simp only[inB,inBs,Bool.and_eq_true,decide_eq_true_eq];exact⟨by omega,inBs_le (by omega) vs g3⟩
     ·simp only[ren,rens,if_true];rw[rens_id hf vs g3];exact hu
    ·cases hc
   ·cases hc
  ·cases hc
 ·cases hc
theorem wpick_canon {h0:Nat}:∀{L:List (IV×Heap)} {c:IV×Heap},wpick h0 L=some c->(L=[c])∨∀o∈L,canon h0 o=some c
 | [],c,h=>by cases h
 | [o],c,h=>by cases h;exact .inl rfl
 | o::p::os,c,h=>by
  right;simp only[wpick]at h;split at h
  ·cases h
  ·rename_i d hd;split at h
   ·rename_i hall
    cases h
    intro x hx;rcases List.mem_cons.1 hx with rfl | hx
    ·exact hd
    ·have:=List.all_eq_true.1 hall x hx;split at this
     ·rename_i e he;simp only[Bool.and_eq_true]at this;rw[he]
      congr 1
      exact Prod.ext (ivb_eq _ _ this.1) (hpb_eq this.2)
     ·cases this
   ·cases h
theorem sim_pick {P:Program}{f:FuncId}{args:List IV}{H:Heap}{L:List (IV×Heap)}{c:IV×Heap}(h:SimW P f args H (fun r H'=>(r,H')∈L))(hc:wpick H.length L=some c):SimCall P f args H c.1 c.2:=by
 intro B0 w0 w m us hR hA;refine(h B0 w0 w m us hR hA).mono ?_;rintro e w' ⟨r,H',m',u,hmem,he,hext,hR',hu⟩;rcases wpick_canon hc with rfl | hall
 ·have:=List.mem_singleton.1 hmem;subst this;exact⟨m',u,he,hext,hR',hu⟩
 ·obtain⟨m'',k1,k2,k3⟩:=canon_post hR hext hR' hu (hall _ hmem);exact⟨m'',u,he,k1,k2,k3⟩
theorem sim_closed {P:Program}{f:FuncId}{args:List IV}{v:IV}{H':Heap}(h:SimCall P f args [] v H')(ha:inBs 0 args=true)(hv:inB 0 v=true)(H:Heap):SimCall P f args H v H:=by
 intro B0 w0 w m us hR hA;have hA0:VRs (fun _=>none) args us.toList:=by
  have:=VRs_ren (f:=id) (n:=0) (m:=m) args us.toList ha (by rw[rens_id (n:=0) (fun _ h=>absurd h (by omega)) args ha];exact hA);exact VRs.ext (fun i l hi=>by simp[sub]at hi) _ _ this
 refine(h w.heap.size w w _ us (rel_start w) hA0).mono ?_;rintro e w' ⟨m',u,he,hext,hR',hu⟩;refine⟨m,u,he,Ext.refl m,hR.under hR'.below,?_⟩;have:=VR_ren (f:=id) (n:=0) (m:=m') v u hv (by rw[ren_id (n:=0) (fun _ h=>absurd h (by omega)) v hv];exact hu);exact VR.ext (fun i l hi=>by simp[sub]at hi) _ _ this
def isT :Option (IV×Heap)->Bool
 | some (.bool true,_)=>true
 | _=>false
end Go.Shade
namespace Go.Shade
def LoF (P:Program)(f:FuncId)(lf:LFun):Prop:=(∃fn,P.funcs[f]? =some fn/\lowF P fn=some lf)/\callable P f=true
section
variable {P : Program} {T : Table}
theorem denLo {f:FuncId}{lf:LFun}(h0:T f=none)(hl:LoF P f lf)(N:Nat){args:List IV}{H:Heap}{x:IV×Heap}(hn:args.length<=lf.n)(hr:lrunK (callable P) (den P T) N lf args H=some x):den P T f args H=some x:=by
 obtain⟨⟨fn,g1,g2⟩,_⟩:=hl;exact low_den (cal:=callable P) (fun _ h=>h) h0 g1 g2 hn (lrunK_le hr)
theorem denWp {f:FuncId}{lf:LFun}(h0:T f=none)(hl:LoF P f lf)(N:Nat){args:List IV}{H:Heap}{Q:Out->Prop}(hn:args.length<=lf.n)(hr:Wp (lrunK (callable P) (den P T) N lf args H) Q):Wp (den P T f args H) Q:=by
 obtain⟨x,h1,h2⟩:=hr;exact⟨x,denLo h0 hl N hn h1,h2⟩
end
end Go.Shade
namespace Go.Shade
variable {H : Heap}
def insL (fr:FuncId):LFun:=⟨lappN 7 (sInsXC0 fr) (.seq (.seq (.reg [⟨some 61,.mv (.t 2),none⟩,⟨some 62,.mv (.t 0),none⟩,⟨some 63,.mv (.t 1),none⟩,⟨some 64,.mv (.t 7),none⟩,⟨some 65,.bin .add (.t 63) (.t 64),none⟩,⟨some 66,.slc (.slice 2) (.t 62) (some (.t 65)) none none,none⟩,⟨some 67,.ovl (.t 61) (.t 66),none⟩,⟨some 68,.un .not (.t 67),none⟩]) (.cond (.t 68) (sInsXC1 fr) .skip)) (sInsXC2 fr)),[.tmp 6],95⟩
def insRs :List LRes:=[(.tmp 6),(.tmp 0),(.tmp 1),(.tmp 2),(.tmp 7),(.tmp 8)]
def insK :KT (IV×Heap):=fun x E H=>match x with
 | .normal=>gIns (lk E 0) (lk E 1) (lk E 2) (lk E 7) (lk E 8) (lk E 68) H
 | .ret=>resK insRs [] E H
 | .exit _=>none
def insR :KT (IV×Heap):=fun x E H=>match x with
 | .ret=>resK insRs [] E H
 | _=>none
theorem insK_ret {E:Sg}{r:Out}(h:resK insRs [] E H=some r):r=(.tuple [lk E 6,lk E 0,lk E 1,lk E 2,lk E 7,lk E 8],H):=by cases h;rfl
theorem insK_nor {E:Sg}{r:Out}(h:insK .normal E H=some r):r=(.tuple [lk E 0,lk E 1,lk E 2,lk E 7,lk E 8],H):=by cases h;rfl
section
variable {cal : FuncId -> Bool} {O : Oracle} {N : Nat} {fr : FuncId}
theorem ins_ret_w {v0 v1 v2 res a b c d:IV}{H':Heap}(hA:∀v8 v68,∃e,sInsXC0S cal O N fr gIns v0 v1 v2 v8 v68 H=some (.tuple [res,a,b,c,d,e],H')):lrunW cal O N (insL fr) [v0,v1,v2] H fun r K=>r=res/\K=H':=by
 unfold lrunW insL;refine lappN_W ?_;show lxW cal O N (sInsXC0 fr) _ H _;obtain⟨e,hA⟩:=hA (.tuple []) (.tuple []);refine lxK_W (k:=insK) (Q:=fun r=>r=(.tuple [res,a,b,c,d,e],H')) ?_ ?_
 ·rw[sInsXC0Eq cal O N fr (k:=insK) gIns (fun _ _=>rfl) (fun _ _=>rfl)];exact⟨_,hA,rfl⟩
 ·rintro x E K r hx rfl
  cases x with
  | exit id=>cases hx
  | normal =>
   have:=insK_nor hx;simp at this
  | ret =>
   have:=insK_ret hx;simp only[Prod.mk.injEq,IV.tuple.injEq,List.cons.injEq]at this;exact⟨[res],by rw[this.1.1];rfl,rfl,this.2.symm⟩
theorem ins_room_w (hrot:∀(H:Heap) (b o n lb r:Nat) (ex:Bool) (l:List Pr),H[b]? =some (.row (fl l) false)->one2 l->1<=r->r<n->n<=lb->o+n<=l.length->n<=1000000->O fr [.slice b (2*o) n lb ex 2,.int .i64 (r:Nat)] H=some (.tuple [],H.set b (.row (fl (rot l o n (n - r))) false)))
  {H:Heap} {b n c i:Nat} {l:List Pr} {e:Pr} {vb vo vl:Nat} {vx:Bool} {vs:Nat} (hb:H[b]? =some (.row (fl l) false)) (hl:l.length=n) (hin:i<n) (hc:n<c) (h1:one2 l) (he:e.1.one=true/\e.2.one=true) (hv:∀cs,OneAt (H.set b (.row cs false)) (.slice vb vo 1 vl vx vs) e) (hvr:rowThere H[vb]? =true) (hn9:n<1000000) :
  lrunW cal O N (insL fr) [.slice b 0 n c true 2,.int .i64 (i:Nat),.slice vb vo 1 vl vx vs] H fun r K=>r=.slice b 0 (n+1) c true 2/\K=H.set b (.row (fl (ins l i e)) false):=by
 have hv0:OneAt H (.slice vb vo 1 vl vx vs) e:=by have:=hv (fl l);rwa [List.set_getElem?_self' hb]at this
 unfold lrunW insL;refine lappN_W ?_;show lxW cal O N (sInsXC0 fr) _ H _;refine lxK_W (k:=insK) (Q:=fun r=>r=(.tuple [.slice b 0 (n+1) c true 2,.int .i64 (i:Nat),.slice vb vo 1 vl vx vs,.int .i64 1,.int .i64 (n:Nat)],H)) ?_ ?_
 ·rw[sInsXC0Eq cal O N fr (k:=insK) gIns (fun _ _=>rfl) (fun _ _=>rfl)];exact⟨_,ins_room hin hc hv0 (by omega),rfl⟩
 ·rintro x E K r hx rfl
  cases x with
  | exit id=>cases hx
  | ret=>have:=insK_ret hx;simp at this
  | normal =>
   have:=insK_nor hx;simp only[Prod.mk.injEq,IV.tuple.injEq,List.cons.injEq,and_true]at this;obtain⟨⟨b0,b1,b2,b7,b8⟩,rfl⟩:=this;simp only[lxW,lopsW];refine⟨_,lopW_q rfl rfl,fun r hr=> ?_⟩;rw[List.mem_singleton]at hr;subst hr;refine⟨_,lopW_q rfl rfl,fun r hr=> ?_⟩;rw[List.mem_singleton]at hr;subst hr;refine⟨_,lopW_q rfl rfl,fun r hr=> ?_⟩;rw[List.mem_singleton]at hr;subst hr;refine⟨_,lopW_q rfl rfl,fun r hr=> ?_⟩;rw[List.mem_singleton]at hr;subst hr;simp only[pput];refine⟨_,lopW_q (v:=.int .i64 ((i+1:Nat):Int)) rfl ?_,fun r hr=> ?_⟩
   ·show lbin .add (lk E 1) (lk E 7)=_;rw[←b1,←b7,lbin_add,wrap_i64 (by omega) (by omega)];congr 1
   rw[List.mem_singleton]at hr;subst hr;refine⟨_,lopW_q (v:=.slice b (2*(i+1)) (n - i) (c - (i+1)) true 2) rfl ?_,fun r hr=> ?_⟩
   ·show lslice H (.slice 2) (lk E 0) (some (.int .i64 ((i+1:Nat):Int))) none none=_;rw[←b0,show(0:Nat)=2*0 from rfl,sl_from (by omega) (by omega)]
    congr 2<;>omega
   rw[List.mem_singleton]at hr;subst hr;refine⟨[(.bool false,H),(.bool true,H)],?_,fun r hr=> ?_⟩
   ·show stOvl H (lk E 2) (.slice b (2*(i+1)) (n - i) (c - (i+1)) true 2)=_;rw[←b2];simp only[stOvl];rw[if_pos ⟨by omega,by omega,hvr,by rw[hb];rfl⟩]
   have two:r=(.bool false,H)∨r=(.bool true,H):=by simpa using hr
   rcases two with rfl | rfl
   ·refine⟨_,lopW_q (v:=.bool true) rfl rfl,fun r hr=> ?_⟩;rw[List.mem_singleton]at hr;subst hr;simp only[pput];show lxW cal O N (sInsXC1 fr) _ H _;refine lxK_W (k:=insR) (Q:=fun r=>∃v8,r=(.tuple [.slice b 0 (n+1) c true 2,.slice b 0 (n+1) c true 2,.int .i64 (i:Nat),.slice vb vo 1 vl vx vs,.int .i64 1,v8],H.set b (.row (fl (ins l i e)) false))) ?_ ?_
    ·rw[sInsXC1Eq cal O N fr (k:=insR) (fun _ _=>rfl)];show Wp (sInsXC1S cal O N fr (lk E 0) (lk E 1) (lk E 2) (lk E 7) (lk E 8) H) _;rw[←b0,←b1,←b2,←b7,ins_c1 hb hl hin hc h1 he hv (by omega)];exact⟨_,rfl,_,rfl⟩
    ·rintro x σ2 H2 r hx ⟨v8,rfl⟩
     cases x with
     | exit id=>cases hx
     | normal=>cases hx
     | ret =>
      have:=insK_ret hx;simp only[Prod.mk.injEq,IV.tuple.injEq,List.cons.injEq]at this;exact⟨[.slice b 0 (n+1) c true 2],by rw[this.1.1];rfl,rfl,this.2.symm⟩
   ·refine⟨_,lopW_q (v:=.bool false) rfl rfl,fun r hr=> ?_⟩;rw[List.mem_singleton]at hr;subst hr;simp only[pput];show lxW cal O N (sInsXC2 fr) _ H _;refine lxK_W (k:=insR) (Q:=fun r=>r=(.tuple [.slice b 0 (n+1) c true 2,.slice b 0 (n+1) c true 2,.int .i64 (i:Nat),.slice vb vo 1 vl vx vs,.int .i64 1,.int .i64 (n:Nat)],H.set b (.row (fl (ins l i e)) false))) ?_ ?_
    ·rw[sInsXC2Eq cal O N fr (k:=insR) (fun _ _=>rfl)];show Wp (sInsXC2S cal O N fr (lk E 0) (lk E 1) (lk E 2) (lk E 7) (lk E 8) H) _;rw[←b0,←b1,←b2,←b7,←b8,ins_c2 hrot hb hl hin hc h1 he hv hn9];exact⟨_,rfl,rfl⟩
    ·rintro x σ2 H2 r hx rfl
     cases x with
     | exit id=>cases hx
     | normal=>cases hx
     | ret =>
      have:=insK_ret hx;simp only[Prod.mk.injEq,IV.tuple.injEq,List.cons.injEq]at this;exact⟨[.slice b 0 (n+1) c true 2],by rw[this.1.1];rfl,rfl,this.2.symm⟩
end
end Go.Shade
namespace Go.Shade
open Go.RowKit
theorem Rel.shrink {B0:Nat}{w0 w:World}{m:Mp}{H:Heap}(h:Rel B0 w0 m H w){b:Nat}{cs:List IV}(hb:H[b]? =some (.row cs false))(k:Nat):Rel B0 w0 m (H.set b (.row (cs.take k) false)) w:=by
 have held_of:∀{a:Nat} {p:IObj},(H.set b (IObj.row (cs.take k) false))[a]? =some p->∃p',H[a]? =some p'/\(p.held=true->p'.held=true):=by
  intro a p ha;rw[List.getElem?_set]at ha;by_cases e:b=a
  ·subst e;exact⟨_,hb,fun _=>rfl⟩
  ·rw[if_neg e]at ha;exact⟨p,ha,id⟩
 refine⟨h.below,h.base,fun i l hi=>by simpa using h.dom i l hi,fun i o hi=> ?_,fun i j p q la lb ha hb' hp hq hne hma hmb=> ?_⟩
 ·rw[List.getElem?_set]at hi;by_cases e:b=i
  ·subst e;have hlt:=(ges hb).1;simp[hlt]at hi;subst hi;obtain⟨l,C,e,fr,g1,g2,g3,g4,g5,g6,g7⟩:=h.good b _ hb;refine⟨l,C,e,fr,g1,g2,g3,by rw[List.length_take];omega,g5,g6,fun j v hj=> ?_⟩;rw[List.getElem?_take]at hj;split at hj
   ·exact g7 j v hj
   ·cases hj
  ·rw[if_neg e]at hi;exact h.good i o hi
 ·obtain⟨p',ha',hp'⟩:=held_of ha;obtain⟨q',hb'',hq'⟩:=held_of hb';exact h.inj i j p' q' la lb ha' hb'' (hp' hp) (hq' hq) hne hma hmb
theorem Rel.anew {B0:Nat}{w0 w:World}{m:Mp}{H:Heap}(h:Rel B0 w0 m H w){b:Nat}{cs:List IV}(hb:H[b]? =some (.row cs false)){l:Loc}(hl:m b=some l):Rel B0 w0 (grow m H.length l) (H.set b .dead++[.row cs false]) w:=by
 obtain⟨l',C,e,fr,g1,g2,g3,g4,g5,g6,g7⟩:=h.good b _ hb;rw[hl]at g1;cases g1
 have:=(h.onward hb hl (o1:=l.co) (old:=cs) (new:=[]) (nus:=[]) (fun j v hj=>by
  obtain⟨a,u,hu,hr⟩:=g7 j v hj;exact⟨a,u,by rw[cell_of g2];exact hu,hr⟩) (VRs.nil m) rfl (by simpa using g4)).2
 rw[List.append_nil]at this;exact this
theorem oneAt_of {H K:Heap}{vb vo vl vs:Nat}{vx:Bool}{e:Pr}(h:K[vb]? =H[vb]?)(hv:lsl H 2 (.slice vb vo 1 vl vx vs) 1=some [e.1,e.2]):OneAt K (.slice vb vo 1 vl vx vs) e:=by
 refine⟨rfl,rfl,?_⟩;simp only[lxcells,lsl,irow]at hv ⊢;rw[h];exact hv
theorem sim_insert {P:Program}{O:Oracle}(hφ:Sound P O)(hm:P.follows .mixedOrders=true){f fr:FuncId}(hlo:LoF P f (insL fr))
  (hrot:∀(H:Heap) (b o n lb r:Nat) (ex:Bool) (l:List Pr),H[b]? =some (.row (fl l) false)->one2 l->1<=r->r<n->n<=lb->o+n<=l.length->n<=1000000->O fr [.slice b (2*o) n lb ex 2,.int .i64 (r:Nat)] H=some (.tuple [],H.set b (.row (fl (rot l o n (n - r))) false)))
  {H:Heap} {b n lb i vb vo vl vs:Nat} {ex vx:Bool} {l:List Pr} {e:Pr} {cs:List IV} (hb:H[b]? =some (.row cs false)) (hcs:cs.take (2*n)=fl l) (hl:l.length=n) (hn0:0<n) (hin:i<=n) (h1:one2 l) (he:e.1.one=true/\e.2.one=true) (hvb:vb≠b) (hv:lsl H 2 (.slice vb vo 1 vl vx vs) 1=some [e.1,e.2]) (hvr:rowThere H[vb]? =true) (hn9:n<1000000) :
  SimCall P f [.slice b 0 n lb ex 2,.int .i64 (i:Nat),.slice vb vo 1 vl vx vs] H (.slice H.length 0 (n+1) (n+1) false 2) (H.set b .dead++[.row (fl (ins l i e)) false]):=by
 intro B0 w0 w m us hR hA;obtain⟨⟨fn,q1,q2⟩,_⟩:=hlo;have hR1:=hR.shrink hb (2*n);rw[hcs]at hR1;have hlt:=(ges hb).1;have hb1:(H.set b (.row (fl l) false))[b]? =some (.row (fl l) false):=setAt hb;have hlen:(H.set b (IObj.row (fl l) false)).length=H.length:=List.length_set;have hdead:(H.set b (IObj.row (fl l) false)).set b .dead=H.set b .dead:=List.set_set ..;have hvb1:(H.set b (IObj.row (fl l) false))[vb]? =H[vb]? :=List.getElem?_set_ne (Ne.symm hvb);have sim:∀{v0:IV} {K:IV->Heap->Prop},lrunW (callable P) O 0 (insL fr) [v0,.int .i64 (i:Nat),.slice vb vo 1 vl vx vs] (H.set b (.row (fl l) false)) K->SimW P f [v0,.int .i64 (i:Nat),.slice vb vo 1 vl vx vs] (H.set b (.row (fl l) false)) K :=
  fun h=>sim_W hφ (fun _ h=>h) hm q1 q2 (nble rfl) h
 have hA':=hA;simp only[VRs]at hA';obtain⟨v,vs',hus,hv0,hrest⟩:=hA';have hv0':=hv0;simp only[VR]at hv0;obtain⟨ll,o',c,sp,hll,rfl,k1,k2,k3,k4,k5⟩:=hv0;have withV:∀{x:IV},VR m x (.slice (some ⟨ll.cb,o',sp⟩) n c)->VRs m [x,.int .i64 (i:Nat),.slice vb vo 1 vl vx vs] us.toList:=by
  intro x hx;rw[hus];simp only[VRs];exact⟨_,_,rfl,hx,hrest⟩
 by_cases hi:i=n
 ·
  subst hi;have hW:=sim (ins_ret_w (v0:=.slice b 0 i i false 2) (hA:=fun v8 v68=>⟨_,ins_end (cal:=callable P) (O:=O) (N:=0) (fr:=fr) (v8:=v8) (v68:=v68) hb1 hl hn0 h1 he (oneAt_of hvb1 hv) (by omega)⟩));refine(hW B0 w0 w m us hR1 (withV (by simp only[VR];exact⟨ll,o',c,sp,hll,rfl,Nat.le_refl _,by omega,fun h=>(by cases h),fun _=>k4 (by omega),k5⟩))).mono ?_;rintro en w' ⟨r,H',m',u,⟨rfl,rfl⟩,rfl,hext,hR',hu⟩;rw[hlen]at hu;rw[hdead]at hR';exact⟨m',u,rfl,hext,hR',hu⟩
 ·have hex:VR m (.slice b 0 n c true 2) (.slice (some ⟨ll.cb,o',sp⟩) n c):=by
   simp only[VR];exact⟨ll,o',c,sp,hll,rfl,by omega,Nat.le_refl _,fun _=>rfl,fun _=>k4 (by omega),k5⟩
  by_cases hc:n<c
  ·
   have hW:=sim (ins_room_w (cal:=callable P) (O:=O) (N:=0) hrot (c:=c) hb1 hl (by omega) hc h1 he (fun cs'=>oneAt_of (by rw[List.set_set];exact List.getElem?_set_ne (Ne.symm hvb)) hv) (by rw[hvb1];exact hvr) hn9);refine(hW B0 w0 w m us hR1 (withV hex)).mono ?_;rintro en w' ⟨r,H',m',u,⟨rfl,rfl⟩,rfl,hext,hR',hu⟩;rw[List.set_set]at hR';have hll':=hext _ _ hll;have hb2:(H.set b (IObj.row (fl (ins l i e)) false))[b]? =some (.row (fl (ins l i e)) false):=setAt hb;have hR2:=hR'.anew hb2 hll';rw[List.set_set,List.length_set]at hR2;simp only[VR]at hu;obtain⟨l2,o2,c2,sp2,t1,rfl,t2,t3,t4,t5,t6⟩:=hu;rw[hll']at t1;cases t1
   have hdm:=grow_ext hR' ll;rw[List.length_set]at hdm;refine⟨_,_,rfl,hext.trans hdm,hR2,?_⟩;simp only[VR];exact⟨ll,o2,c2,sp2,grow_at _ _ _,rfl,Nat.le_refl _,by omega,fun h=>(by cases h),fun _=>t5 (by omega),t6⟩
  ·
   have hcn:c=n:=by omega
   subst hcn;have hW:=sim (ins_ret_w (v0:=.slice b 0 c c true 2) (hA:=fun v8 v68=>⟨_,ins_grow (cal:=callable P) (O:=O) (N:=0) (fr:=fr) (v8:=v8) (v68:=v68) hb1 hl (by omega) h1 he (fun r=>oneAt_of (by rw[List.getElem?_append_left (by rw[hlen];cases hq:H[vb]? with | none=>rw[hq]at hvr;cases hvr | some o=>exact(ges hq).1)];exact hvb1) hv) (by omega)⟩));refine(hW B0 w0 w m us hR1 (withV hex)).mono ?_;rintro en w' ⟨r,H',m',u,⟨rfl,rfl⟩,rfl,hext,hR',hu⟩;have hk:=hR'.kill b;rw[List.set_append_left _ _ (by rw[hlen];exact hlt),hdead]at hk;rw[hlen]at hu;exact⟨m',u,rfl,hext,hk,hu⟩
end Go.Shade
namespace Go.Shade
open Go.RowKit
def unfl :List IV->Option (List Pr)
 | []=>some []
 | x::y::l=>if x.one&&y.one then(unfl l).map fun k=>(x,y)::k else none
 | [_]=>none
theorem unfl_eq :∀{cs:List IV} {l:List Pr},unfl cs=some l->cs=fl l/\one2 l
 | [],l,h=>by cases h;exact⟨rfl,fun p hp=>by cases hp⟩
 | [x],l,h=>by cases h
 | x::y::cs,l,h=>by
  simp only[unfl]at h;split at h
  ·rename_i ho;simp only[Bool.and_eq_true]at ho;obtain⟨k,hk,rfl⟩:=Option.map_eq_some_iff.1 h;obtain⟨h1,h2⟩:=unfl_eq hk;refine⟨by rw[h1];rfl,fun p hp=> ?_⟩;rcases List.mem_cons.1 hp with rfl | hp
   ·exact ho
   ·exact h2 p hp
  ·cases h
def insT (args:List IV)(H:Heap):Option (IV×Heap) :=
 match args with
 | [.slice b 0 n lb ex 2,.int .i64 i,.slice vb vo 1 vl vx vs]=>match H[b]? with
  | some (.row cs false)=>match unfl (cs.take (2*n)),lsl H 2 (.slice vb vo 1 vl vx vs) 1 with
   | some l,some [e1,e2] =>
    if Nat.beq l.length n&&(Nat.blt 0 n&&(decide (0<=i)&&(Nat.ble i.toNat n&&(e1.one&&(e2.one&&(!Nat.beq vb b&&(rowThere H[vb]? &&Nat.blt n 1000000)))))))then
     some (.slice H.length 0 (n+1) (n+1) false 2,H.set b .dead++[.row (fl (ins l i.toNat (e1,e2))) false])
    else if Nat.beq n 0&&(decide (i=0)&&(Nat.blt 0 lb&&(Nat.ble 2 cs.length&&(e1.one&&e2.one))))then some (.slice b 0 1 lb ex 2,H.set b (.row (putAt cs 0 [e1,e2]) false))
    else none
   | _,_=>none
  | _=>none
 | [.nilSlice,.int .i64 0,.slice vb vo 1 vl vx vs]=>match lsl H 2 (.slice vb vo 1 vl vx vs) 1 with
  | some [e1,e2]=>if e1.one&&e2.one then some (.slice H.length 0 1 1 false 2,H++[.row [e1,e2] false])else none
  | _=>none
 | _=>none
theorem ins_zero {cal:FuncId->Bool}{O:Oracle}{N:Nat}{fr:FuncId}{H:Heap}{b lb:Nat}{ex:Bool}{cs:List IV}{v:IV}{e:Pr}{v8 v68:IV}(hb:H[b]? =some (.row cs false))(hlb:0<lb)(hcs:2<=cs.length)(he:e.1.one=true/\e.2.one=true)(hv:OneAt H v e) :
  sInsXC0S cal O N fr gIns (.slice b 0 0 lb ex 2) (.int .i64 0) v v8 v68 H=some (.tuple [.slice b 0 1 lb ex 2,.slice b 0 0 lb ex 2,.int .i64 0,v,.int .i64 1,.int .i64 0],H.set b (.row (putAt cs 0 [e.1,e.2]) false)):=by
 unfold sInsXC0S;have s1:lslice H (.slice 2) (.slice b 0 0 lb ex 2) (some (.int .i64 0)) none none=some (.slice b 0 0 lb ex 2):=by
  simp[lslice,bnd]
 have s2:llen H .slice (.slice b 0 0 lb ex 2)=some (.int .i64 0):=rfl;rw[s1,ob_some,hv.1,ob_some,lbin_eql,ob_some,decide_eq_false (by omega),cnd_false,s2,ob_some,lbin_eql,ob_some,decide_eq_true rfl,cnd_true];have happ:lapp H 2 24 (.slice b 0 0 lb ex 2) v=some (.slice b 0 1 lb ex 2,H.set b (.row (putAt cs 0 [e.1,e.2]) false)):=by
  unfold lapp lappend;simp only[hv.2.1,Option.bind_some];rw[if_neg (by omega),hv.2.2];simp only[Option.bind_some];rw[if_pos ⟨rfl,by simp[he.1,he.2]⟩];simp only[hb];rw[if_pos (by omega),if_pos (by simpa using hcs)]
 rw[happ,ob_some]
theorem sound_insT {P:Program}{O:Oracle}(hφ:Sound P O)(hm:P.follows .mixedOrders=true){f fr:FuncId}(hlo:LoF P f (insL fr))
  (hrot:∀(H:Heap) (b o n lb r:Nat) (ex:Bool) (l:List Pr),H[b]? =some (.row (fl l) false)->one2 l->1<=r->r<n->n<=lb->o+n<=l.length->n<=1000000->O fr [.slice b (2*o) n lb ex 2,.int .i64 (r:Nat)] H=some (.tuple [],H.set b (.row (fl (rot l o n (n - r))) false)))
  (args:List IV) (H:Heap) (r:IV) (H':Heap) (e:insT args H=some (r,H')):SimCall P f args H r H':=by
 unfold insT at e;split at e
 ·rename_i b n lb ex i vb vo vl vx vs;split at e
  ·rename_i cs hb;split at e
   ·rename_i l e1 e2 hl hv;split at e
    ·rename_i hc;simp only[Bool.and_eq_true,Bool.not_eq_true',decide_eq_true_eq]at hc;obtain⟨c1,c2,c3,c4,c5,c6,c7,c8,c9⟩:=hc
     cases e
     obtain⟨u1,u2⟩:=unfl_eq hl;have c2:1<=n:=by simpa[Nat.blt]using c2
     have c9:n<1000000:=by simpa[Nat.blt_eq]using c9
     have:=sim_insert hφ hm hlo hrot (i:=i.toNat) (lb:=lb) (ex:=ex) (e:=(e1,e2)) hb u1 (Nat.eq_of_beq_eq_true c1) c2 (nble c4) u2 ⟨c5,c6⟩ (fun h=>by rw[h,Nat.beq_refl]at c7;cases c7) hv c8 c9;rw[show((i.toNat:Nat):Int)=i by omega]at this;exact this
    ·split at e
     ·rename_i hc;simp only[Bool.and_eq_true,decide_eq_true_eq]at hc;obtain⟨c1,c2,c3,c4,c5,c6⟩:=hc
      cases e
      have c1:=Nat.eq_of_beq_eq_true c1;have c3:1<=lb:=by simpa[Nat.blt]using c3
      subst c1 c2;obtain⟨⟨fn,q1,q2⟩,_⟩:=hlo;have hW:=sim_W hφ (fun _ h=>h) hm q1 q2 (nble rfl) (ins_ret_w (cal:=callable P) (N:=0) (H:=H) (hA:=fun v8 v68=>⟨_,ins_zero (cal:=callable P) (O:=O) (N:=0) (fr:=fr) (v8:=v8) (v68:=v68) (ex:=ex) (e:=(e1,e2)) hb (show 0<lb from c3) (nble c4) ⟨c5,c6⟩ (oneAt_of rfl hv)⟩));intro B0 w0 w m us hR hA;refine(hW B0 w0 w m us hR hA).mono ?_;rintro en w' ⟨r,H',m',u,⟨rfl,rfl⟩,rfl,hext,hR',hu⟩;exact⟨m',u,rfl,hext,hR',hu⟩
     ·cases e
   ·cases e
  ·cases e
 ·rename_i vb vo vl vx vs;split at e
  ·rename_i e1 e2 hv;split at e
   ·rename_i hc;simp only[Bool.and_eq_true]at hc
    cases e
    obtain⟨⟨fn,q1,q2⟩,_⟩:=hlo;have hW:=sim_W hφ (fun _ h=>h) hm q1 q2 (nble rfl) (ins_ret_w (cal:=callable P) (N:=0) (H:=H) (hA:=fun v8 v68=>⟨_,ins_nil (cal:=callable P) (O:=O) (N:=0) (fr:=fr) (v8:=v8) (v68:=v68) (e:=(e1,e2)) hc (oneAt_of rfl hv)⟩));intro B0 w0 w m us hR hA;refine(hW B0 w0 w m us hR hA).mono ?_;rintro en w' ⟨r,H',m',u,⟨rfl,rfl⟩,rfl,hext,hR',hu⟩;exact⟨m',u,rfl,hext,hR',hu⟩
   ·cases e
  ·cases e
 ·cases e
def kcallT (P:Program)(T:Table)(N:Nat):Nat->Oracle
 | 0=>fun _ _ _=>none
 | n+1=>fun f args H=>match T f with
  | some g=>g args H
  | none=>match P.funcs[f]? with
   | none=>none
   | some fn=>match lowF P fn with
    | none=>none
    | some lf=>if Nat.ble args.length lf.n then
      match lrunO (callable P) (kcallT P T N n) N lf args H with
      | none=>none
      | some L=>wpick H.length L
     else none
theorem sound_kcallT {P:Program}{T:Table}(hT:SoundT P T)(hm:P.follows .mixedOrders=true)(N:Nat):∀n,Sound P (kcallT P T N n)
 | 0=>fun f args H r H' e=>by cases e
 | n+1=>fun f args H r H' e=>by
  simp only[kcallT]at e;split at e
  ·rename_i g hg;exact hT f g hg args H r H' e
  ·split at e
   ·cases e
   ·rename_i fn hf;split at e
    ·cases e
    ·rename_i lf hl;split at e
     ·rename_i hlen;split at e
      ·cases e
      ·rename_i L hL;exact sim_pick (sim_W (sound_kcallT hT hm N n) (fun _ h=>h) hm hf hl (nble hlen) (lrunO_W hL)) e
     ·cases e
theorem sim_awakeT {P:Program}{T:Table}(hT:SoundT P T)(hm:P.follows .mixedOrders=true){N n:Nat}{f:FuncId}(h:isT (kcallT P T N n f [] [])=true)(H:Heap):SimCall P f [] H (.bool true) H:=by
 unfold isT at h;split at h
 ·rename_i H' e;exact sim_closed (sound_kcallT hT hm N n f [] [] _ _ e) rfl rfl H
 ·cases h
end Go.Shade
namespace Go.Shade
def newRows (B:Nat)(room:Int):Heap:=[.row [.int .i64 room,.int .i64 0] false,.row [.slice (B+2) 0 199 199 false 3,.int .i64 199] false,.row (itcs (upQ 199)) false,.row (brC (.ptr B 0) (rootC (B+5)) (.ptr (B+1) 0)) false,.row [.nilSlice] false,.row (nodC (B+4)) false]
def bnT (args:List IV)(H:Heap):Option (IV×Heap):=match args with
 | [.int .i64 room]=>if 0<=room/\room<=65536 then some (.ptr (H.length+3) 0,H++newRows H.length room)else none
 | _=>none
theorem rens_itcs (f:Nat->Nat):∀l:List It,rens f (itcs l)=itcs l
 | []=>rfl
 | x::l=>by simp only[itcs,rens,ren,rens_itcs f l]
theorem inBs_itcs (n:Nat):∀l:List It,inBs n (itcs l)=true
 | []=>rfl
 | x::l=>by simp only[itcs,inBs,inB,inBs_itcs n l,Bool.and_self]
theorem rens_append (f:Nat->Nat):∀a b:List IV,rens f (a++b)=rens f a++rens f b
 | [],b=>rfl
 | x::a,b=>by simp only[List.cons_append,rens,rens_append f a b]
theorem inBs_append (n:Nat):∀a b:List IV,inBs n (a++b)=(inBs n a&&inBs n b)
 | [],b=>by simp[inBs]
 | x::a,b=>by simp only[List.cons_append,inBs,inBs_append n a b,Bool.and_assoc]
theorem rens_nils (f:Nat->Nat):∀k,rens f (List.replicate k .nilPtr)=List.replicate k .nilPtr
 | 0=>rfl
 | k+1=>by simp only[List.replicate_succ,rens,ren,rens_nils f k]
theorem inBs_nils (n:Nat):∀k,inBs n (List.replicate k .nilPtr)=true
 | 0=>rfl
 | k+1=>by simp only[List.replicate_succ,inBs,inB,inBs_nils n k,Bool.and_self]
def bnG (h s q r b d x i:Nat):Nat:=if i<h then i else if i=h then s else if i=h+1 then q else if i=h+2 then r else if i=h+3 then b else if i=h+4 then d else x
theorem bnG_cases (h s q r b d x i:Nat)(hi:i<h+6):(i<h/\bnG h s q r b d x i=i)∨(i=h/\bnG h s q r b d x i=s)∨(i=h+1/\bnG h s q r b d x i=q)∨(i=h+2/\bnG h s q r b d x i=r)∨(i=h+3/\bnG h s q r b d x i=b)∨(i=h+4/\bnG h s q r b d x i=d)∨(i=h+5/\bnG h s q r b d x i=x):=by
 unfold bnG;by_cases e0:i<h
 ·rw[if_pos e0];exact .inl ⟨e0,rfl⟩
 ·rw[if_neg e0];by_cases e1:i=h
  ·rw[if_pos e1];exact .inr (.inl ⟨e1,rfl⟩)
  ·rw[if_neg e1];by_cases e2:i=h+1
   ·rw[if_pos e2];exact .inr (.inr (.inl ⟨e2,rfl⟩))
   ·rw[if_neg e2];by_cases e3:i=h+2
    ·rw[if_pos e3];exact .inr (.inr (.inr (.inl ⟨e3,rfl⟩)))
    ·rw[if_neg e3];by_cases e4:i=h+3
     ·rw[if_pos e4];exact .inr (.inr (.inr (.inr (.inl ⟨e4,rfl⟩))))
     ·rw[if_neg e4];by_cases e5:i=h+4
      ·rw[if_pos e5];exact .inr (.inr (.inr (.inr (.inr (.inl ⟨e5,rfl⟩)))))
      ·rw[if_neg e5];exact .inr (.inr (.inr (.inr (.inr (.inr ⟨by omega,rfl⟩)))))
theorem bnG_inj {h s q r b d x:Nat}(o:h<=s/\s<b/\h<=q/\s<q/\q<b/\b<d/\d<x/\b<r/\r<d){i j:Nat}(hi:i<h+6)(hj:j<h+6)(hne:i≠j):bnG h s q r b d x i≠bnG h s q r b d x j:=by
 have a:=bnG_cases h s q r b d x i hi;have c:=bnG_cases h s q r b d x j hj;generalize bnG h s q r b d x i=u at *;generalize bnG h s q r b d x j=v at *;omega
theorem sound_bnT {P:Program}{O:Oracle}(hφ:Sound P O){f:FuncId}(hb:BNewOk O f)(args:List IV)(H:Heap)(r:IV)(H':Heap)(e:bnT args H=some (r,H')):SimCall P f args H r H':=by
 unfold bnT at e;split at e
 ·rename_i room;split at e
  ·rename_i h0
   cases e
   obtain⟨⟨r,H1⟩,h1,h2,h3⟩:=hb H room;rw[if_pos h0]at h3;simp only at h3 h2;obtain⟨b,rfl,⟨s,q,d,x,Q,a1,a2,a3,a4,a5,a6,b1,b2,b3,b4,b5,b6,b7,b8⟩⟩:=h3;have hs:=hφ _ _ _ _ _ h1;obtain⟨sv,k,t1,t2⟩:=a6;obtain⟨_,c2,sv',c3,c4⟩:=a5;rw[c3]at t1;cases t1
   rcases c4 with⟨rfl,e⟩ | ⟨r,rest,ex,rfl,c5,c6⟩
   ·have:=congrArg List.length e;rw[upQ_length]at this;cases this
   ·rcases t2 with e | ⟨r',n',e⟩
    ·cases e
    ·injection e with _ _ e1 e2 e3 _
     rw[upQ_length]at e1 e2;have hr:rest=[]:=List.length_eq_zero_iff.1 (by omega);subst hr e3;rw[List.append_nil]at c6;rw[upQ_length]at c3;have hrq:b<r/\r<d:=by rcases b8 r c5.1 with h | h;exact absurd h c5.2;exact h
     have gc:=fun i hi=>bnG_cases H.length s q r b d x i hi;have gj:=fun i j hi hj hne=>bnG_inj (h:=H.length) (s:=s) (q:=q) (r:=r) (b:=b) (d:=d) (x:=x) ⟨b1,b2,b3,b4,b5,b6,b7,hrq⟩ (i:=i) (j:=j) hi hj hne;have g0:∀i,i<H.length->bnG H.length s q r b d x i=i:=fun i hi=>if_pos hi;generalize bnG H.length s q r b d x=g at *;have g1:g H.length=s:=by have:=gc H.length (by omega);omega
     have g2:g (H.length+1)=q:=by have:=gc (H.length+1) (by omega);omega
     have g3:g (H.length+2)=r:=by have:=gc (H.length+2) (by omega);omega
     have g4:g (H.length+3)=b:=by have:=gc (H.length+3) (by omega);omega
     have g5:g (H.length+4)=d:=by have:=gc (H.length+4) (by omega);omega
     have g6:g (H.length+5)=x:=by have:=gc (H.length+5) (by omega);omega
     have hlen:(H++newRows H.length room).length=H.length+6:=by rw[List.length_append];rfl
     refine hs.clean g g0 (by omega) (fun i o hi=> ?_) (fun i j hi hj hne=> ?_) (by rw[show ren g (.ptr (H.length+3) 0)=.ptr (g (H.length+3)) 0 from rfl,g4]) (by rw[hlen];simp[inB])
     ·rw[hlen];by_cases hlt:i<H.length
      ·rw[List.getElem?_append_left hlt]at hi;exact .inl ⟨hlt,hi,h2.get (fun h=>h) hi⟩
      ·rw[List.getElem?_append_right (by omega)]at hi;right;obtain⟨j,rfl⟩:∃j,i=H.length+j:=⟨i - H.length,by omega⟩;rw[Nat.add_sub_cancel_left]at hi;have hj:j<6:=(ges hi).1
       match j,hj with
       | 0,_=>cases hi;exact⟨rfl,by rw[Nat.add_zero,g1];exact a2⟩
       | 1,_=>cases hi;exact⟨by simp[inBO,inBs,inB],by rw[g2,c3];simp only[renO,rens,ren,g3];congr⟩
       | 2,_=>cases hi;exact⟨inBs_itcs _ _,by rw[g3,c6];simp only[renO,rens_itcs]⟩
       | 3,_=>cases hi;exact⟨by simp only[inBO,brC,rootC,inBs,inBs_append,inB,inBs_nils];simp,by rw[g4,a1];simp only[renO,brC,rootC,rens,rens_append,ren,rens_nils,g1,g2,g6]⟩
       | 4,_=>cases hi;exact⟨rfl,by rw[g5];exact a4⟩
       | 5,_=>cases hi;exact⟨by simp[inBO,nodC,inBs,inB],by rw[g6,a3];simp only[renO,nodC,rens,ren,g5]⟩
     ·rw[hlen]at hi hj;exact gj i j hi hj hne
  ·cases e
 ·cases e
end Go.Shade
namespace Go.Shade
def unit3 :List IV->Option (List It)
 | []=>some []
 | .int .i64 a:: .int .i64 b:: .int .i64 c::l=>match unit3 l with
  | some k=>some (⟨a,b,c⟩::k)
  | none=>none
 | _=>none
def lastL :List It->Option It
 | []=>none
 | [x]=>some x
 | _::l=>lastL l
def popT (args:List IV)(H:Heap):Option (IV×Heap):=match args with
 | [.ptr q 0]=>match H[q]? with
  | some (.row [.slice r 0 n lb ex 3,.int .i64 k] false)=>match H[r]? with
   | some (.row cs false)=>match unit3 cs with
    | some items=>if Nat.beq lb items.length&&(Nat.blt 0 n&&(Nat.ble n lb&&(!Nat.beq r q&&Nat.ble n 1000000)))then
      match lastL (popL (items.take n))with
      | some x=>some (.tuple [.int .i64 x.key,.int .i64 x.n,.bool true],(H.set r (.row (itcs (popL (items.take n)++items.drop n)) false)).set q (.row [.slice r 0 (n - 1) lb ex 3,.int .i64 k] false))
      | none=>none
     else none
    | none=>none
   | _=>none
  | _=>none
 | _=>none
theorem unit3_eq :∀{cs:List IV} {l:List It},unit3 cs=some l->cs=itcs l
 | [],l,h=>by cases h;rfl
 | .int .i64 a:: .int .i64 b:: .int .i64 c::cs,l,h=>by
  simp only[unit3]at h;split at h
  ·rename_i k hk
   cases h
   rw[unit3_eq hk];rfl
  ·cases h
theorem lastL_eq :∀{l:List It} {x:It},lastL l=some x->l=l.dropLast++[x]
 | [],x,h=>by cases h
 | [y],x,h=>by cases h;rfl
 | y::z::l,x,h=>by
  have:=lastL_eq (l:=z::l) h;rw[List.dropLast_cons_cons,List.cons_append,←this]
theorem sound_popT {P:Program}{O:Oracle}(hφ:Sound P O){f:FuncId}(hp:QPopOk O f)(args:List IV)(H:Heap)(r:IV)(H':Heap)(e:popT args H=some (r,H')):SimCall P f args H r H':=by
 unfold popT at e;split at e
 ·rename_i q;split at e
  ·rename_i r0 n lb ex k hq;split at e
   ·rename_i cs hr;split at e
    ·rename_i items hi;split at e
     ·rename_i hc;simp only[Bool.and_eq_true,Bool.not_eq_true']at hc;obtain⟨c1,c2,c3,c4,c5⟩:=hc;have c1:=Nat.eq_of_beq_eq_true c1;have c2:1<=n:=by simpa[Nat.blt]using c2
      have c3:=nble c3;have c5:=nble c5;have c4:r0≠q:=fun h=>by rw[h,Nat.beq_refl]at c4;cases c4
      split at e
      ·rename_i x hx
       cases e
       have hcs:=unit3_eq hi;subst hcs c1;have hl:(items.take n).length=n:=by rw[List.length_take];omega
       have hX:QX H q r0 ex (items.drop n) (items.take n) k:=⟨by rw[hl,List.length_drop,show n+(items.length - n)=items.length by omega];exact hq,by rw[List.take_append_drop];exact hr,c4⟩;have hQ:QOk (fun i=>i=q∨i=r0) H q (items.take n) k:=by
        refine⟨.inl rfl,fun i hi=> ?_,_,hX.hd,.inr ⟨r0,items.drop n,ex,rfl,⟨.inr rfl,c4⟩,hX.row⟩⟩;rcases hi with rfl | rfl
        ·exact(ges hq).1
        ·exact(ges hr).1
       obtain⟨⟨v,H1⟩,h1,h2,h3⟩:=hp _ H q _ k hQ (by omega);rcases h3 with⟨h3,_⟩ | ⟨y,h3,h4,h5,h6⟩
       ·rw[h3]at hl;simp at hl;omega
       ·simp only at h2 h4 h5 h6;have hxy:x=y:=by
         have a:=lastL_eq hx;rw[h3]at a;have:=congrArg List.getLast? a;rw[h3]at this
         simpa using this.symm
        subst hxy h4;have h6:=h6 _ _ _ hX;have hlq:=(ges hq).1;have hlr:=(ges hr).1;have hdl:(popL (items.take n)).dropLast.length=n - 1:=by rw[List.length_dropLast,popL_length,hl]
        have hrow:popL (items.take n)++items.drop n=(popL (items.take n)).dropLast++x::items.drop n:=by
         conv=>lhs;rw[h3]
         simp
        refine(hφ _ _ _ _ _ h1).clean (fun i=>i) (fun i _=>rfl) (by simp) (fun i o hi=> ?_) (fun i j _ _ h=>h) (ren_idf _ rfl).symm (by simp[inB,inBs]);by_cases e1:i=q
        ·subst e1;have hlq':i<(H.set r0 (.row (itcs (popL (items.take n)++items.drop n)) false)).length:=by simpa using hlq
         rw[List.getElem?_set_self hlq']at hi
         cases hi
         refine .inr ⟨by simp[inBO,inBs,inB];exact hlr,?_⟩;rw[h6.hd,hdl];have:n - 1+(x::items.drop n).length=items.length:=by simp;omega
         rw[this];simp only[renO,rens,ren]
        ·rw[List.getElem?_set_ne (fun h=>e1 h.symm)]at hi;by_cases e2:i=r0
         ·subst e2;rw[List.getElem?_set_self hlr]at hi
          cases hi
          refine .inr ⟨inBs_itcs _ _,?_⟩;rw[h6.row,hrow];simp only[renO,rens_itcs]
         ·rw[List.getElem?_set_ne (fun h=>e2 h.symm)]at hi;have:=(ges hi).1;exact .inl ⟨this,hi,h2.get (fun h=>h.elim e1 e2) hi⟩
      ·cases e
     ·cases e
    ·cases e
   ·cases e
  ·cases e
 ·cases e
end Go.Shade
namespace Go.Shade
open Go.RowKit
variable {K : Heap} {P : Program} {g : FuncId}
def nodN :List Nat->Bool
 | []=>true
 | i::l=>(l.all fun j=> !Nat.beq i j)&&nodN l
def gcRows (n:Nat)(f:Nat->Nat)(H1:Heap):Heap->List Nat->Bool
 | [],[]=>true
 | o::K,i::fl=>inBO n o&&((match H1[i]? with | some p=>iob (renO f o) p | none=>false)&&gcRows n f H1 K fl)
 | _,_=>false
def idN :Nat->Nat->List Nat->Bool
 | 0,_,_=>true
 | n+1,i,j::l=>Nat.beq i j&&idN n (i+1) l
 | _+1,_,[]=>false
def gcF (fl:List Nat)(i:Nat):Nat:=fl.getD i 0
def gcOk (H H1 K:Heap)(fl:List Nat)(r r':IV):Bool :=
 Nat.ble H.length K.length&&(idN H.length 0 fl&&(nodN fl&&(gcRows K.length (gcF fl) H1 K fl&&(ivb (ren (gcF fl) r') r&&inB K.length r'))))
theorem gcRows_at {n:Nat}{f:Nat->Nat}{H1:Heap}:∀{K:Heap} {fl:List Nat},gcRows n f H1 K fl=true->fl.length=K.length/\∀(i:Nat) o,K[i]? =some o->inBO n o=true/\∃j,fl[i]? =some j/\H1[j]? =some (renO f o)
 | [],[],_=>⟨rfl,fun i o h=>by simp at h⟩
 | o::K,j::fl,h=>by
  simp only[gcRows,Bool.and_eq_true]at h;obtain⟨h1,h2,h3⟩:=h;obtain⟨k1,k2⟩:=gcRows_at h3;refine⟨by simp[k1],fun i p hi=> ?_⟩
  cases i with
  | zero =>
   simp at hi;subst hi;refine⟨h1,j,rfl,?_⟩;split at h2
   ·rename_i p hp;rw[hp,iob_eq h2]
   ·cases h2
  | succ i=>exact k2 i p (by simpa using hi)
 | [],_::_,h=>by cases h
 | _::_,[],h=>by cases h
theorem idN_at :∀{n k:Nat} {fl:List Nat},idN n k fl=true->∀i,i<n->fl[i]? =some (k+i)
 | 0,_,_,_,i,hi=>by omega
 | n+1,k,[],h,_,_=>by cases h
 | n+1,k,j::l,h,i,hi=>by
  simp only[idN,Bool.and_eq_true]at h
  cases i with
  | zero=>simp[Nat.eq_of_beq_eq_true h.1]
  | succ i =>
   have:=idN_at h.2 i (by omega);simp only[List.getElem?_cons_succ];rw[this];congr 1;omega
theorem nodN_at :∀{fl:List Nat},nodN fl=true->∀(i j a b:Nat),fl[i]? =some a->fl[j]? =some b->i≠j->a≠b
 | [],_,i,j,a,b,h,_,_=>by simp at h
 | x::fl,h,i,j,a,b,hi,hj,hne=>by
  simp only[nodN,Bool.and_eq_true,List.all_eq_true,Bool.not_eq_true']at h
  cases i with
  | zero =>
   cases j with
   | zero=>exact absurd rfl hne
   | succ j =>
    simp at hi hj;subst hi;intro e;have:=h.1 b (List.mem_of_getElem? hj);rw[e,Nat.beq_refl]at this;cases this
  | succ i =>
   cases j with
   | zero =>
    simp at hi hj;subst hj;intro e;have:=h.1 a (List.mem_of_getElem? hi);rw[e,Nat.beq_refl]at this;cases this
   | succ j=>exact nodN_at h.2 i j a b (by simpa using hi) (by simpa using hj) (by omega)
theorem sim_gc {args:List IV}{H H1:Heap}{r r':IV}{fl:List Nat}(h:SimCall P g args H r H1)(hc:gcOk H H1 K fl r r'=true):SimCall P g args H r' K:=by
 simp only[gcOk,Bool.and_eq_true]at hc;obtain⟨c1,c2,c3,c4,c5,c6⟩:=hc;obtain⟨d1,d2⟩:=gcRows_at c4;have hg:∀i j,fl[i]? =some j->gcF fl i=j:=fun i j h=>by unfold gcF;rw[List.getD_eq_getElem?_getD,h];rfl
 refine h.gc (gcF fl) (fun i hi=>by have:=hg _ _ (idN_at c2 i hi);omega) (nble c1) (fun i o hi=> ?_) (fun i j hi hj hne=> ?_) (ivb_eq _ _ c5).symm c6
 ·obtain⟨e1,j,e2,e3⟩:=d2 i o hi;exact⟨e1,by rw[hg i j e2];exact e3⟩
 ·have a:=List.getElem?_eq_getElem (l:=fl) (i:=i) (by omega);have b:=List.getElem?_eq_getElem (l:=fl) (i:=j) (by omega);rw[hg _ _ a,hg _ _ b];exact nodN_at c3 i j _ _ a b hne
def stage (o:Option (IV×Heap))(H K:Heap)(fl:List Nat)(r':IV):Bool:=match o with
 | some (r,H1)=>gcOk H H1 K fl r r'
 | none=>false
theorem sim_stage {T:Table}(hT:SoundT P T)(hm:P.follows .mixedOrders=true){N n:Nat}{args:List IV}{H:Heap}{r':IV}{fl:List Nat}(h:stage (kcallT P T N n g args H) H K fl r'=true):SimCall P g args H r' K:=by
 unfold stage at h;split at h
 ·rename_i r H1 e;exact sim_gc (sound_kcallT hT hm N n _ _ _ _ _ e) h
 ·cases h
def atT (A:List IV)(H0:Heap)(R:IV)(K:Heap)(args:List IV)(H:Heap):Option (IV×Heap):=if ivbs args A&&hpb H H0 then some (R,K)else none
theorem sound_atT {A:List IV}{H0:Heap}{R:IV}(h:SimCall P g A H0 R K)(args:List IV)(H:Heap)(r:IV)(H':Heap)(e:atT A H0 R K args H=some (r,H')):SimCall P g args H r H':=by
 unfold atT at e;split at e
 ·rename_i hc;simp only[Bool.and_eq_true]at hc
  cases e
  rw[ivbs_eq _ _ hc.1,hpb_eq hc.2];exact h
 ·cases e
end Go.Shade
namespace Go.Shade
def scAA :List IV:=[.nilSlice,.nilSlice,.int .i64 9]
def scAH :Heap:=[
 .row ([.int .u8 1,.int .u8 2,.int .u8 7,.int .u8 8]) false,
 .row ([.int .u8 1,.int .u8 2]) false,
 .row ([.nilSlice,.nilSlice]) false,
 .row ([.int .u8 7,.int .u8 8]) false,
 .row ([.slice 0 4 0 0 true 1]) false,
 .row ([.func (.func 38) [] [.ptr 4 0]]) false,
 .row ([.int .u8 0,.int .u8 0]) false,
 .row ([.nilSlice]) false,
 .row ([]) false,
 .row ([.nilSlice]) false,
 .row ([.func (.func 38) [] [.ptr 9 0]]) false,
 .row ([.int .i64 11,.int .i64 0,.int .i64 0,.int .i64 0,.int .i64 0,.str [97],.str []]) false,
 .row ([.slice 11 0 1 1 true 7]) false,
 .row ([.int .i64 11,.int .i64 0,.int .i64 0,.int .i64 0,.int .i64 0,.str [97],.str []]) false,
 .row ([.int .i64 11,.int .i64 0,.int .i64 0,.int .i64 0,.int .i64 0,.str [97],.str []]) false,
 .row ([.int .i64 11,.int .i64 0,.int .i64 0,.int .i64 0,.int .i64 0,.str [97],.str []]) false,
 .row ([.int .i64 11,.int .i64 0,.int .i64 0,.int .i64 0,.int .i64 0,.str [97],.str []]) false,
 .row ([.int .i64 11,.int .i64 0,.int .i64 0,.int .i64 0,.int .i64 0,.str [97],.str []]) false,
 .row ([.int .u8 10,.int .u8 4,.int .u8 0,.int .u8 1,.int .u8 0,.int .u8 1,.int .u8 0,.int .u8 1]) false,
 .dead,
 .row ([.int .u8 0]) false,
 .row ([.int .u8 10,.int .u8 4,.int .u8 0,.int .u8 1,.int .u8 0,.int .u8 1,.int .u8 0,.int .u8 1,.int .u8 97,.int .u8 0]) false,
 .row ([.int .u8 10,.int .u8 4,.int .u8 0,.int .u8 1,.int .u8 0,.int .u8 1,.int .u8 0,.int .u8 1,.int .u8 97,.int .u8 0]) false,
 .row ([.int .u8 0,.int .u8 0]) false,
 .row ([.int .u8 0,.int .u8 0,.int .u8 10,.int .u8 4,.int .u8 0,.int .u8 1,.int .u8 0,.int .u8 1,.int .u8 0,.int .u8 1,.int .u8 97,.int .u8 0]) false,
 .row ([.int .u8 0,.int .u8 0]) false,
 .row ([.slice 37 0 1 1 false 7]) false,
 .row ([]) false,
 .row ([.slice 24 12 0 0 true 1]) false,
 .row ([.func (.func 38) [] [.ptr 28 0]]) false,
 .row ([.int .i64 11,.int .i64 0,.int .i64 0,.int .i64 0,.int .i64 0,.str [97],.str []]) false,
 .row ([.int .u8 97]) false,
 .row ([.int .u8 97]) false,
 .row ([.int .i64 11,.int .i64 0,.int .i64 0,.int .i64 0,.int .i64 0,.str [97],.str []]) false,
 .row ([.int .i64 11,.int .i64 0,.int .i64 0,.int .i64 0,.int .i64 0,.str [97],.str []]) false,
 .row ([.int .i64 11,.int .i64 0,.int .i64 0,.int .i64 0,.int .i64 0,.str [97],.str []]) false,
 .row ([.int .i64 11,.int .i64 0,.int .i64 0,.int .i64 0,.int .i64 0,.str [97],.str []]) false,
 .row ([.int .i64 11,.int .i64 0,.int .i64 0,.int .i64 0,.int .i64 0,.str [97],.str []]) false]
def scAR :IV:=.tuple [.ptr 38 0,.int .i64 0]
def scAK :Heap:=[
 .row ([.int .u8 1,.int .u8 2,.int .u8 7,.int .u8 8]) false,
 .row ([.int .u8 1,.int .u8 2]) false,
 .row ([.nilSlice,.nilSlice]) false,
 .row ([.int .u8 7,.int .u8 8]) false,
 .row ([.slice 0 4 0 0 true 1]) false,
 .row ([.func (.func 38) [] [.ptr 4 0]]) false,
 .row ([.int .u8 0,.int .u8 0]) false,
 .row ([.nilSlice]) false,
 .row ([]) false,
 .row ([.nilSlice]) false,
 .row ([.func (.func 38) [] [.ptr 9 0]]) false,
 .row ([.int .i64 11,.int .i64 0,.int .i64 0,.int .i64 0,.int .i64 0,.str [97],.str []]) false,
 .row ([.slice 11 0 1 1 true 7]) false,
 .row ([.int .i64 11,.int .i64 0,.int .i64 0,.int .i64 0,.int .i64 0,.str [97],.str []]) false,
 .row ([.int .i64 11,.int .i64 0,.int .i64 0,.int .i64 0,.int .i64 0,.str [97],.str []]) false,
 .row ([.int .i64 11,.int .i64 0,.int .i64 0,.int .i64 0,.int .i64 0,.str [97],.str []]) false,
 .row ([.int .i64 11,.int .i64 0,.int .i64 0,.int .i64 0,.int .i64 0,.str [97],.str []]) false,
 .row ([.int .i64 11,.int .i64 0,.int .i64 0,.int .i64 0,.int .i64 0,.str [97],.str []]) false,
 .row ([.int .u8 10,.int .u8 4,.int .u8 0,.int .u8 1,.int .u8 0,.int .u8 1,.int .u8 0,.int .u8 1]) false,
 .dead,
 .row ([.int .u8 0]) false,
 .row ([.int .u8 10,.int .u8 4,.int .u8 0,.int .u8 1,.int .u8 0,.int .u8 1,.int .u8 0,.int .u8 1,.int .u8 97,.int .u8 0]) false,
 .row ([.int .u8 10,.int .u8 4,.int .u8 0,.int .u8 1,.int .u8 0,.int .u8 1,.int .u8 0,.int .u8 1,.int .u8 97,.int .u8 0]) false,
 .row ([.int .u8 0,.int .u8 0]) false,
 .row ([.int .u8 0,.int .u8 0,.int .u8 10,.int .u8 4,.int .u8 0,.int .u8 1,.int .u8 0,.int .u8 1,.int .u8 0,.int .u8 1,.int .u8 97,.int .u8 0]) false,
 .row ([.int .u8 0,.int .u8 0]) false,
 .row ([.slice 37 0 1 1 false 7]) false,
 .row ([]) false,
 .row ([.slice 24 12 0 0 true 1]) false,
 .row ([.func (.func 38) [] [.ptr 28 0]]) false,
 .row ([.int .i64 11,.int .i64 0,.int .i64 0,.int .i64 0,.int .i64 0,.str [97],.str []]) false,
 .row ([.int .u8 97]) false,
 .row ([.int .u8 97]) false,
 .row ([.int .i64 11,.int .i64 0,.int .i64 0,.int .i64 0,.int .i64 0,.str [97],.str []]) false,
 .row ([.int .i64 11,.int .i64 0,.int .i64 0,.int .i64 0,.int .i64 0,.str [97],.str []]) false,
 .row ([.int .i64 11,.int .i64 0,.int .i64 0,.int .i64 0,.int .i64 0,.str [97],.str []]) false,
 .row ([.int .i64 11,.int .i64 0,.int .i64 0,.int .i64 0,.int .i64 0,.str [97],.str []]) false,
 .row ([.int .i64 11,.int .i64 0,.int .i64 0,.int .i64 0,.int .i64 0,.str [97],.str []]) false,
 .row ([.ptr 39 0,.ptr 40 0,.ptr 41 0,.ptr 42 0]++zrep 33 [.int .i64 0]) false,
 .row ([.ptr 43 0,.nilPtr,.ptr 44 0,.ptr 45 0,.ptr 46 0]++zrep 197 [.nilPtr]++[.ptr 47 0]) false,
 .row ([.ptr 48 0,.nilPtr,.ptr 49 0]++zrep 199 [.nilPtr]++[.ptr 50 0]) false,
 .row ([.ptr 39 0,.ptr 40 0,.int .i64 2,.int .i64 3,.ptr 51 0]) false,
 .row (zrep 32 [.nilPtr]) false,
 .row ([.int .i64 9,.int .i64 0]) false,
 .row ([.int .i64 2,.int .i64 1,.int .i64 0,.int .i64 0,.int .i64 1,.nilPtr,.ptr 52 0,.str []]) false,
 .row ([.int .i64 2,.int .i64 1,.int .i64 0,.int .i64 0,.int .i64 1,.nilPtr,.ptr 53 0,.str []]) false,
 .row ([.int .i64 2,.int .i64 1,.int .i64 0,.int .i64 0,.int .i64 1,.nilPtr,.ptr 54 0,.str []]) false,
 .row ([.slice 55 0 197 199 false 3,.int .i64 199]) false,
 .row ([.int .i64 65536,.int .i64 0]) false,
 .row ([.int .i64 2,.int .i64 1,.int .i64 0,.int .i64 0,.int .i64 1,.nilPtr,.ptr 56 0,.str []]) false,
 .row ([.slice 57 0 199 199 false 3,.int .i64 199]) false,
 .row ([.ptr 39 0,.ptr 40 0,.int .i64 2,.int .i64 1]) false,
 .row ([.slice 58 0 2 2 false 2]) false,
 .row ([.nilSlice]) false,
 .row ([.nilSlice]) false,
 .row ([.int .i64 4,.int .i64 4,.int .i64 2,.int .i64 5,.int .i64 5,.int .i64 3,.int .i64 7,.int .i64 7,.int .i64 5,.int .i64 9,.int .i64 9,.int .i64 7,.int .i64 6,.int .i64 6,.int .i64 4,.int .i64 13,.int .i64 13,.int .i64 11,.int .i64 8,.int .i64 8,.int .i64 6,.int .i64 17,.int .i64 17,.int .i64 15,.int .i64 10,.int .i64 10,.int .i64 8,.int .i64 11,.int .i64 11,.int .i64 9,.int .i64 12,.int .i64 12,.int .i64 10,.int .i64 25,.int .i64 25,.int .i64 23,.int .i64 14,.int .i64 14,.int .i64 12,.int .i64 15,.int .i64 15,.int .i64 13,.int .i64 16,.int .i64 16,.int .i64 14,.int .i64 33,.int .i64 33,.int .i64 31,.int .i64 18,.int .i64 18,.int .i64 16,.int .i64 19,.int .i64 19,.int .i64 17,.int .i64 20,.int .i64 20,.int .i64 18,.int .i64 21,.int .i64 21,.int .i64 19,.int .i64 22,.int .i64 22,.int .i64 20,.int .i64 23,.int .i64 23,.int .i64 21,.int .i64 24,.int .i64 24,.int .i64 22,.int .i64 49,.int .i64 49,.int .i64 47,.int .i64 26,.int .i64 26,.int .i64 24,.int .i64 27,.int .i64 27,.int .i64 25,.int .i64 28,.int .i64 28,.int .i64 26,.int .i64 29,.int .i64 29,.int .i64 27,.int .i64 30,.int .i64 30,.int .i64 28,.int .i64 31,.int .i64 31,.int .i64 29,.int .i64 32,.int .i64 32,.int .i64 30,.int .i64 65,.int .i64 65,.int .i64 63,.int .i64 34,.int .i64 34,.int .i64 32,.int .i64 35,.int .i64 35,.int .i64 33,.int .i64 36,.int .i64 36,.int .i64 34,.int .i64 37,.int .i64 37,.int .i64 35,.int .i64 38,.int .i64 38,.int .i64 36,.int .i64 39,.int .i64 39,.int .i64 37,.int .i64 40,.int .i64 40,.int .i64 38,.int .i64 41,.int .i64 41,.int .i64 39,.int .i64 42,.int .i64 42,.int .i64 40,.int .i64 43,.int .i64 43,.int .i64 41,.int .i64 44,.int .i64 44,.int .i64 42,.int .i64 45,.int .i64 45,.int .i64 43,.int .i64 46,.int .i64 46,.int .i64 44,.int .i64 47,.int .i64 47,.int .i64 45,.int .i64 48,.int .i64 48,.int .i64 46,.int .i64 97,.int .i64 97,.int .i64 95,.int .i64 50,.int .i64 50,.int .i64 48,.int .i64 51,.int .i64 51,.int .i64 49,.int .i64 52,.int .i64 52,.int .i64 50,.int .i64 53,.int .i64 53,.int .i64 51,.int .i64 54,.int .i64 54,.int .i64 52,.int .i64 55,.int .i64 55,.int .i64 53,.int .i64 56,.int .i64 56,.int .i64 54,.int .i64 57,.int .i64 57,.int .i64 55,.int .i64 58,.int .i64 58,.int .i64 56,.int .i64 59,.int .i64 59,.int .i64 57,.int .i64 60,.int .i64 60,.int .i64 58,.int .i64 61,.int .i64 61,.int .i64 59,.int .i64 62,.int .i64 62,.int .i64 60,.int .i64 63,.int .i64 63,.int .i64 61,.int .i64 64,.int .i64 64,.int .i64 62,.int .i64 129,.int .i64 129,.int .i64 127,.int .i64 66,.int .i64 66,.int .i64 64,.int .i64 67,.int .i64 67,.int .i64 65,.int .i64 68,.int .i64 68,.int .i64 66,.int .i64 69,.int .i64 69,.int .i64 67,.int .i64 70,.int .i64 70,.int .i64 68,.int .i64 71,.int .i64 71,.int .i64 69,.int .i64 72,.int .i64 72,.int .i64 70,.int .i64 73,.int .i64 73,.int .i64 71,.int .i64 74,.int .i64 74,.int .i64 72,.int .i64 75,.int .i64 75,.int .i64 73,.int .i64 76,.int .i64 76,.int .i64 74,.int .i64 77,.int .i64 77,.int .i64 75,.int .i64 78,.int .i64 78,.int .i64 76,.int .i64 79,.int .i64 79,.int .i64 77,.int .i64 80,.int .i64 80,.int .i64 78,.int .i64 81,.int .i64 81,.int .i64 79,.int .i64 82,.int .i64 82,.int .i64 80,.int .i64 83,.int .i64 83,.int .i64 81,.int .i64 84,.int .i64 84,.int .i64 82,.int .i64 85,.int .i64 85,.int .i64 83,.int .i64 86,.int .i64 86,.int .i64 84,.int .i64 87,.int .i64 87,.int .i64 85,.int .i64 88,.int .i64 88,.int .i64 86,.int .i64 89,.int .i64 89,.int .i64 87,.int .i64 90,.int .i64 90,.int .i64 88,.int .i64 91,.int .i64 91,.int .i64 89,.int .i64 92,.int .i64 92,.int .i64 90,.int .i64 93,.int .i64 93,.int .i64 91,.int .i64 94,.int .i64 94,.int .i64 92,.int .i64 95,.int .i64 95,.int .i64 93,.int .i64 96,.int .i64 96,.int .i64 94,.int .i64 193,.int .i64 193,.int .i64 191,.int .i64 98,.int .i64 98,.int .i64 96,.int .i64 99,.int .i64 99,.int .i64 97,.int .i64 100,.int .i64 100,.int .i64 98,.int .i64 101,.int .i64 101,.int .i64 99,.int .i64 102,.int .i64 102,.int .i64 100,.int .i64 103,.int .i64 103,.int .i64 101,.int .i64 104,.int .i64 104,.int .i64 102,.int .i64 105,.int .i64 105,.int .i64 103,.int .i64 106,.int .i64 106,.int .i64 104,.int .i64 107,.int .i64 107,.int .i64 105,.int .i64 108,.int .i64 108,.int .i64 106,.int .i64 109,.int .i64 109,.int .i64 107,.int .i64 110,.int .i64 110,.int .i64 108,.int .i64 111,.int .i64 111,.int .i64 109,.int .i64 112,.int .i64 112,.int .i64 110,.int .i64 113,.int .i64 113,.int .i64 111,.int .i64 114,.int .i64 114,.int .i64 112,.int .i64 115,.int .i64 115,.int .i64 113,.int .i64 116,.int .i64 116,.int .i64 114,.int .i64 117,.int .i64 117,.int .i64 115,.int .i64 118,.int .i64 118,.int .i64 116,.int .i64 119,.int .i64 119,.int .i64 117,.int .i64 120,.int .i64 120,.int .i64 118,.int .i64 121,.int .i64 121,.int .i64 119,.int .i64 122,.int .i64 122,.int .i64 120,.int .i64 123,.int .i64 123,.int .i64 121,.int .i64 124,.int .i64 124,.int .i64 122,.int .i64 125,.int .i64 125,.int .i64 123,.int .i64 126,.int .i64 126,.int .i64 124,.int .i64 127,.int .i64 127,.int .i64 125,.int .i64 128,.int .i64 128,.int .i64 126,.int .i64 200,.int .i64 200,.int .i64 198,.int .i64 130,.int .i64 130,.int .i64 128,.int .i64 131,.int .i64 131,.int .i64 129,.int .i64 132,.int .i64 132,.int .i64 130,.int .i64 133,.int .i64 133,.int .i64 131,.int .i64 134,.int .i64 134,.int .i64 132,.int .i64 135,.int .i64 135,.int .i64 133,.int .i64 136,.int .i64 136,.int .i64 134,.int .i64 137,.int .i64 137,.int .i64 135,.int .i64 138,.int .i64 138,.int .i64 136,.int .i64 139,.int .i64 139,.int .i64 137,.int .i64 140,.int .i64 140,.int .i64 138,.int .i64 141,.int .i64 141,.int .i64 139,.int .i64 142,.int .i64 142,.int .i64 140,.int .i64 143,.int .i64 143,.int .i64 141,.int .i64 144,.int .i64 144,.int .i64 142,.int .i64 145,.int .i64 145,.int .i64 143,.int .i64 146,.int .i64 146,.int .i64 144,.int .i64 147,.int .i64 147,.int .i64 145,.int .i64 148,.int .i64 148,.int .i64 146,.int .i64 149,.int .i64 149,.int .i64 147,.int .i64 150,.int .i64 150,.int .i64 148,.int .i64 151,.int .i64 151,.int .i64 149,.int .i64 152,.int .i64 152,.int .i64 150,.int .i64 153,.int .i64 153,.int .i64 151,.int .i64 154,.int .i64 154,.int .i64 152,.int .i64 155,.int .i64 155,.int .i64 153,.int .i64 156,.int .i64 156,.int .i64 154,.int .i64 157,.int .i64 157,.int .i64 155,.int .i64 158,.int .i64 158,.int .i64 156,.int .i64 159,.int .i64 159,.int .i64 157,.int .i64 160,.int .i64 160,.int .i64 158,.int .i64 161,.int .i64 161,.int .i64 159,.int .i64 162,.int .i64 162,.int .i64 160,.int .i64 163,.int .i64 163,.int .i64 161,.int .i64 164,.int .i64 164,.int .i64 162,.int .i64 165,.int .i64 165,.int .i64 163,.int .i64 166,.int .i64 166,.int .i64 164,.int .i64 167,.int .i64 167,.int .i64 165,.int .i64 168,.int .i64 168,.int .i64 166,.int .i64 169,.int .i64 169,.int .i64 167,.int .i64 170,.int .i64 170,.int .i64 168,.int .i64 171,.int .i64 171,.int .i64 169,.int .i64 172,.int .i64 172,.int .i64 170,.int .i64 173,.int .i64 173,.int .i64 171,.int .i64 174,.int .i64 174,.int .i64 172,.int .i64 175,.int .i64 175,.int .i64 173,.int .i64 176,.int .i64 176,.int .i64 174,.int .i64 177,.int .i64 177,.int .i64 175,.int .i64 178,.int .i64 178,.int .i64 176,.int .i64 179,.int .i64 179,.int .i64 177,.int .i64 180,.int .i64 180,.int .i64 178,.int .i64 181,.int .i64 181,.int .i64 179,.int .i64 182,.int .i64 182,.int .i64 180,.int .i64 183,.int .i64 183,.int .i64 181,.int .i64 184,.int .i64 184,.int .i64 182,.int .i64 185,.int .i64 185,.int .i64 183,.int .i64 186,.int .i64 186,.int .i64 184,.int .i64 187,.int .i64 187,.int .i64 185,.int .i64 188,.int .i64 188,.int .i64 186,.int .i64 189,.int .i64 189,.int .i64 187,.int .i64 190,.int .i64 190,.int .i64 188,.int .i64 191,.int .i64 191,.int .i64 189,.int .i64 192,.int .i64 192,.int .i64 190,.int .i64 199,.int .i64 199,.int .i64 197,.int .i64 194,.int .i64 194,.int .i64 192,.int .i64 195,.int .i64 195,.int .i64 193,.int .i64 196,.int .i64 196,.int .i64 194,.int .i64 197,.int .i64 197,.int .i64 195,.int .i64 198,.int .i64 198,.int .i64 196,.int .i64 3,.int .i64 3,.int .i64 1,.int .i64 2,.int .i64 2,.int .i64 0]) false,
 .row ([.nilSlice]) false,
 .row ([.int .i64 2,.int .i64 2,.int .i64 0,.int .i64 3,.int .i64 3,.int .i64 1,.int .i64 4,.int .i64 4,.int .i64 2,.int .i64 5,.int .i64 5,.int .i64 3,.int .i64 6,.int .i64 6,.int .i64 4,.int .i64 7,.int .i64 7,.int .i64 5,.int .i64 8,.int .i64 8,.int .i64 6,.int .i64 9,.int .i64 9,.int .i64 7,.int .i64 10,.int .i64 10,.int .i64 8,.int .i64 11,.int .i64 11,.int .i64 9,.int .i64 12,.int .i64 12,.int .i64 10,.int .i64 13,.int .i64 13,.int .i64 11,.int .i64 14,.int .i64 14,.int .i64 12,.int .i64 15,.int .i64 15,.int .i64 13,.int .i64 16,.int .i64 16,.int .i64 14,.int .i64 17,.int .i64 17,.int .i64 15,.int .i64 18,.int .i64 18,.int .i64 16,.int .i64 19,.int .i64 19,.int .i64 17,.int .i64 20,.int .i64 20,.int .i64 18,.int .i64 21,.int .i64 21,.int .i64 19,.int .i64 22,.int .i64 22,.int .i64 20,.int .i64 23,.int .i64 23,.int .i64 21,.int .i64 24,.int .i64 24,.int .i64 22,.int .i64 25,.int .i64 25,.int .i64 23,.int .i64 26,.int .i64 26,.int .i64 24,.int .i64 27,.int .i64 27,.int .i64 25,.int .i64 28,.int .i64 28,.int .i64 26,.int .i64 29,.int .i64 29,.int .i64 27,.int .i64 30,.int .i64 30,.int .i64 28,.int .i64 31,.int .i64 31,.int .i64 29,.int .i64 32,.int .i64 32,.int .i64 30,.int .i64 33,.int .i64 33,.int .i64 31,.int .i64 34,.int .i64 34,.int .i64 32,.int .i64 35,.int .i64 35,.int .i64 33,.int .i64 36,.int .i64 36,.int .i64 34,.int .i64 37,.int .i64 37,.int .i64 35,.int .i64 38,.int .i64 38,.int .i64 36,.int .i64 39,.int .i64 39,.int .i64 37,.int .i64 40,.int .i64 40,.int .i64 38,.int .i64 41,.int .i64 41,.int .i64 39,.int .i64 42,.int .i64 42,.int .i64 40,.int .i64 43,.int .i64 43,.int .i64 41,.int .i64 44,.int .i64 44,.int .i64 42,.int .i64 45,.int .i64 45,.int .i64 43,.int .i64 46,.int .i64 46,.int .i64 44,.int .i64 47,.int .i64 47,.int .i64 45,.int .i64 48,.int .i64 48,.int .i64 46,.int .i64 49,.int .i64 49,.int .i64 47,.int .i64 50,.int .i64 50,.int .i64 48,.int .i64 51,.int .i64 51,.int .i64 49,.int .i64 52,.int .i64 52,.int .i64 50,.int .i64 53,.int .i64 53,.int .i64 51,.int .i64 54,.int .i64 54,.int .i64 52,.int .i64 55,.int .i64 55,.int .i64 53,.int .i64 56,.int .i64 56,.int .i64 54,.int .i64 57,.int .i64 57,.int .i64 55,.int .i64 58,.int .i64 58,.int .i64 56,.int .i64 59,.int .i64 59,.int .i64 57,.int .i64 60,.int .i64 60,.int .i64 58,.int .i64 61,.int .i64 61,.int .i64 59,.int .i64 62,.int .i64 62,.int .i64 60,.int .i64 63,.int .i64 63,.int .i64 61,.int .i64 64,.int .i64 64,.int .i64 62,.int .i64 65,.int .i64 65,.int .i64 63,.int .i64 66,.int .i64 66,.int .i64 64,.int .i64 67,.int .i64 67,.int .i64 65,.int .i64 68,.int .i64 68,.int .i64 66,.int .i64 69,.int .i64 69,.int .i64 67,.int .i64 70,.int .i64 70,.int .i64 68,.int .i64 71,.int .i64 71,.int .i64 69,.int .i64 72,.int .i64 72,.int .i64 70,.int .i64 73,.int .i64 73,.int .i64 71,.int .i64 74,.int .i64 74,.int .i64 72,.int .i64 75,.int .i64 75,.int .i64 73,.int .i64 76,.int .i64 76,.int .i64 74,.int .i64 77,.int .i64 77,.int .i64 75,.int .i64 78,.int .i64 78,.int .i64 76,.int .i64 79,.int .i64 79,.int .i64 77,.int .i64 80,.int .i64 80,.int .i64 78,.int .i64 81,.int .i64 81,.int .i64 79,.int .i64 82,.int .i64 82,.int .i64 80,.int .i64 83,.int .i64 83,.int .i64 81,.int .i64 84,.int .i64 84,.int .i64 82,.int .i64 85,.int .i64 85,.int .i64 83,.int .i64 86,.int .i64 86,.int .i64 84,.int .i64 87,.int .i64 87,.int .i64 85,.int .i64 88,.int .i64 88,.int .i64 86,.int .i64 89,.int .i64 89,.int .i64 87,.int .i64 90,.int .i64 90,.int .i64 88,.int .i64 91,.int .i64 91,.int .i64 89,.int .i64 92,.int .i64 92,.int .i64 90,.int .i64 93,.int .i64 93,.int .i64 91,.int .i64 94,.int .i64 94,.int .i64 92,.int .i64 95,.int .i64 95,.int .i64 93,.int .i64 96,.int .i64 96,.int .i64 94,.int .i64 97,.int .i64 97,.int .i64 95,.int .i64 98,.int .i64 98,.int .i64 96,.int .i64 99,.int .i64 99,.int .i64 97,.int .i64 100,.int .i64 100,.int .i64 98,.int .i64 101,.int .i64 101,.int .i64 99,.int .i64 102,.int .i64 102,.int .i64 100,.int .i64 103,.int .i64 103,.int .i64 101,.int .i64 104,.int .i64 104,.int .i64 102,.int .i64 105,.int .i64 105,.int .i64 103,.int .i64 106,.int .i64 106,.int .i64 104,.int .i64 107,.int .i64 107,.int .i64 105,.int .i64 108,.int .i64 108,.int .i64 106,.int .i64 109,.int .i64 109,.int .i64 107,.int .i64 110,.int .i64 110,.int .i64 108,.int .i64 111,.int .i64 111,.int .i64 109,.int .i64 112,.int .i64 112,.int .i64 110,.int .i64 113,.int .i64 113,.int .i64 111,.int .i64 114,.int .i64 114,.int .i64 112,.int .i64 115,.int .i64 115,.int .i64 113,.int .i64 116,.int .i64 116,.int .i64 114,.int .i64 117,.int .i64 117,.int .i64 115,.int .i64 118,.int .i64 118,.int .i64 116,.int .i64 119,.int .i64 119,.int .i64 117,.int .i64 120,.int .i64 120,.int .i64 118,.int .i64 121,.int .i64 121,.int .i64 119,.int .i64 122,.int .i64 122,.int .i64 120,.int .i64 123,.int .i64 123,.int .i64 121,.int .i64 124,.int .i64 124,.int .i64 122,.int .i64 125,.int .i64 125,.int .i64 123,.int .i64 126,.int .i64 126,.int .i64 124,.int .i64 127,.int .i64 127,.int .i64 125,.int .i64 128,.int .i64 128,.int .i64 126,.int .i64 129,.int .i64 129,.int .i64 127,.int .i64 130,.int .i64 130,.int .i64 128,.int .i64 131,.int .i64 131,.int .i64 129,.int .i64 132,.int .i64 132,.int .i64 130,.int .i64 133,.int .i64 133,.int .i64 131,.int .i64 134,.int .i64 134,.int .i64 132,.int .i64 135,.int .i64 135,.int .i64 133,.int .i64 136,.int .i64 136,.int .i64 134,.int .i64 137,.int .i64 137,.int .i64 135,.int .i64 138,.int .i64 138,.int .i64 136,.int .i64 139,.int .i64 139,.int .i64 137,.int .i64 140,.int .i64 140,.int .i64 138,.int .i64 141,.int .i64 141,.int .i64 139,.int .i64 142,.int .i64 142,.int .i64 140,.int .i64 143,.int .i64 143,.int .i64 141,.int .i64 144,.int .i64 144,.int .i64 142,.int .i64 145,.int .i64 145,.int .i64 143,.int .i64 146,.int .i64 146,.int .i64 144,.int .i64 147,.int .i64 147,.int .i64 145,.int .i64 148,.int .i64 148,.int .i64 146,.int .i64 149,.int .i64 149,.int .i64 147,.int .i64 150,.int .i64 150,.int .i64 148,.int .i64 151,.int .i64 151,.int .i64 149,.int .i64 152,.int .i64 152,.int .i64 150,.int .i64 153,.int .i64 153,.int .i64 151,.int .i64 154,.int .i64 154,.int .i64 152,.int .i64 155,.int .i64 155,.int .i64 153,.int .i64 156,.int .i64 156,.int .i64 154,.int .i64 157,.int .i64 157,.int .i64 155,.int .i64 158,.int .i64 158,.int .i64 156,.int .i64 159,.int .i64 159,.int .i64 157,.int .i64 160,.int .i64 160,.int .i64 158,.int .i64 161,.int .i64 161,.int .i64 159,.int .i64 162,.int .i64 162,.int .i64 160,.int .i64 163,.int .i64 163,.int .i64 161,.int .i64 164,.int .i64 164,.int .i64 162,.int .i64 165,.int .i64 165,.int .i64 163,.int .i64 166,.int .i64 166,.int .i64 164,.int .i64 167,.int .i64 167,.int .i64 165,.int .i64 168,.int .i64 168,.int .i64 166,.int .i64 169,.int .i64 169,.int .i64 167,.int .i64 170,.int .i64 170,.int .i64 168,.int .i64 171,.int .i64 171,.int .i64 169,.int .i64 172,.int .i64 172,.int .i64 170,.int .i64 173,.int .i64 173,.int .i64 171,.int .i64 174,.int .i64 174,.int .i64 172,.int .i64 175,.int .i64 175,.int .i64 173,.int .i64 176,.int .i64 176,.int .i64 174,.int .i64 177,.int .i64 177,.int .i64 175,.int .i64 178,.int .i64 178,.int .i64 176,.int .i64 179,.int .i64 179,.int .i64 177,.int .i64 180,.int .i64 180,.int .i64 178,.int .i64 181,.int .i64 181,.int .i64 179,.int .i64 182,.int .i64 182,.int .i64 180,.int .i64 183,.int .i64 183,.int .i64 181,.int .i64 184,.int .i64 184,.int .i64 182,.int .i64 185,.int .i64 185,.int .i64 183,.int .i64 186,.int .i64 186,.int .i64 184,.int .i64 187,.int .i64 187,.int .i64 185,.int .i64 188,.int .i64 188,.int .i64 186,.int .i64 189,.int .i64 189,.int .i64 187,.int .i64 190,.int .i64 190,.int .i64 188,.int .i64 191,.int .i64 191,.int .i64 189,.int .i64 192,.int .i64 192,.int .i64 190,.int .i64 193,.int .i64 193,.int .i64 191,.int .i64 194,.int .i64 194,.int .i64 192,.int .i64 195,.int .i64 195,.int .i64 193,.int .i64 196,.int .i64 196,.int .i64 194,.int .i64 197,.int .i64 197,.int .i64 195,.int .i64 198,.int .i64 198,.int .i64 196,.int .i64 199,.int .i64 199,.int .i64 197,.int .i64 200,.int .i64 200,.int .i64 198]) false,
 .row ([.str [117,112],.int .i64 2,.str [119,111,114,107],.int .i64 3]) false]
def scAF :List Nat:=[0,1,2,3,4,5,6,7,8,9,10,11,12,13,14,15,16,17,18,19,20,21,22,23,24,25,26,27,28,29,30,31,32,33,34,35,36,37,63,47,41,61,62,44,49,50,55,45,38,43,39,60,48,51,56,46,42,40,59]
end Go.Shade
