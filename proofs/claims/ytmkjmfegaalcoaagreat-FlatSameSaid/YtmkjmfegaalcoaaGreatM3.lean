/- The law FlatSame, part 3. -/
import Derived.Test.YtmkjmfegaalcoaaGreatM2
import Derived.KernelRfl
import Derived.Test.YtmkjmfegaalcoaaGreatRows
import Derived.Test.YtmkjmfegaalcoaaGreatProg
import Derived.Shelf.Strings.BuilderK
import Derived.WalkKit
import Derived.BigCall
set_option linter.all false
namespace Go.Shade
variable {k : KT (IV × Heap)}
def sInsXC0 (csRor:FuncId):LC:=.seq (.reg [
  ⟨(some 6),(.mv (.k .nilSlice)),none⟩]) (.seq (.reg [
  ⟨(some 10),(.mv (.t 0)),none⟩,
  ⟨(some 11),(.mv (.t 1)),none⟩,
  ⟨(some 12),(.slc (.slice 2) (.t 10) (some (.t 11)) none none),none⟩])
 (.seq (.reg [
  ⟨(some 13),(.mv (.t 2)),none⟩,
  ⟨(some 14),(.len .slice (.t 13)),none⟩,
  ⟨(some 7),(.mv (.t 14)),none⟩])
 (.seq (.seq (.reg [
  ⟨(some 15),(.mv (.t 7)),none⟩,
  ⟨(some 16),(.bin .eql (.t 15) (.k (.int .i64 0))),none⟩])
 (.cond (.t 16) (.seq (.reg [
  ⟨(some 17),(.mv (.t 0)),none⟩,
  ⟨(some 6),(.mv (.t 17)),none⟩])
 .ret)
 .skip))
 (.seq (.reg [
  ⟨(some 18),(.mv (.t 0)),none⟩,
  ⟨(some 19),(.len .slice (.t 18)),none⟩,
  ⟨(some 8),(.mv (.t 19)),none⟩])
 (.seq (.seq (.reg [
  ⟨(some 20),(.mv (.t 1)),none⟩,
  ⟨(some 21),(.mv (.t 8)),none⟩,
  ⟨(some 22),(.bin .eql (.t 20) (.t 21)),none⟩])
 (.cond (.t 22) (.seq (.reg [
  ⟨(some 23),(.mv (.t 0)),none⟩,
  ⟨(some 24),(.mv (.t 2)),none⟩,
  ⟨(some 25),(.app 2 24 (.t 23) (.t 24)),none⟩,
  ⟨(some 6),(.mv (.t 25)),none⟩])
 .ret)
 .skip))
 (.seq (.seq (.reg [
  ⟨(some 26),(.mv (.t 8)),none⟩,
  ⟨(some 27),(.mv (.t 7)),none⟩,
  ⟨(some 28),(.bin .add (.t 26) (.t 27)),none⟩,
  ⟨(some 29),(.mv (.t 0)),none⟩,
  ⟨(some 30),(.cap (.t 29)),none⟩,
  ⟨(some 31),(.bin .gtr (.t 28) (.t 30)),none⟩])
 (.cond (.t 31) (.seq (.reg [
  ⟨(some 32),(.mv (.t 0)),none⟩,
  ⟨(some 33),(.mv (.t 1)),none⟩,
  ⟨(some 34),(.slc (.slice 2) (.t 32) none (some (.t 33)) none),none⟩,
  ⟨(some 35),(.mv (.t 8)),none⟩,
  ⟨(some 36),(.mv (.t 7)),none⟩,
  ⟨(some 37),(.bin .add (.t 35) (.t 36)),none⟩,
  ⟨(some 38),(.mv (.t 1)),none⟩,
  ⟨(some 39),(.bin .sub (.t 37) (.t 38)),none⟩,
  ⟨(some 40),(.appz 2 24 [(.str []),(.int .i64 0)] (.t 34) (.t 39)),none⟩,
  ⟨(some 9),(.mv (.t 40)),none⟩])
 (.seq (.reg [
  ⟨(some 41),(.mv (.t 9)),none⟩,
  ⟨(some 42),(.mv (.t 1)),none⟩,
  ⟨(some 43),(.slc (.slice 2) (.t 41) (some (.t 42)) none none),none⟩,
  ⟨(some 44),(.mv (.t 2)),none⟩,
  ⟨(some 45),(.cpy 2 (.t 43) (.t 44)),none⟩])
 (.seq (.drw [
  ⟨(some 46),(.mv (.t 9)),none⟩,
  ⟨(some 47),(.mv (.t 1)),none⟩,
  ⟨(some 48),(.mv (.t 7)),none⟩,
  ⟨(some 49),(.bin .add (.t 47) (.t 48)),none⟩,
  ⟨(some 50),(.slc (.slice 2) (.t 46) (some (.t 49)) none none),none⟩,
  ⟨(some 51),(.mv (.t 0)),none⟩,
  ⟨(some 52),(.mv (.t 1)),none⟩,
  ⟨(some 53),(.slc (.slice 2) (.t 51) (some (.t 52)) none none),none⟩,
  ⟨(some 54),(.cpy 2 (.t 50) (.t 53)),none⟩] [])
 (.seq (.reg [
  ⟨(some 55),(.mv (.t 9)),none⟩,
  ⟨(some 6),(.mv (.t 55)),none⟩])
 .ret))))
 .skip))
 (.reg [
  ⟨(some 56),(.mv (.t 0)),none⟩,
  ⟨(some 57),(.mv (.t 8)),none⟩,
  ⟨(some 58),(.mv (.t 7)),none⟩,
  ⟨(some 59),(.bin .add (.t 57) (.t 58)),none⟩,
  ⟨(some 60),(.slc (.slice 2) (.t 56) none (some (.t 59)) none),none⟩,
  ⟨(some 0),(.mv (.t 60)),none⟩])))))))
def sInsXC1 (csRor:FuncId):LC:=.seq (.drw [
  ⟨(some 69),(.mv (.t 0)),none⟩,
  ⟨(some 70),(.mv (.t 1)),none⟩,
  ⟨(some 71),(.mv (.t 7)),none⟩,
  ⟨(some 72),(.bin .add (.t 70) (.t 71)),none⟩,
  ⟨(some 73),(.slc (.slice 2) (.t 69) (some (.t 72)) none none),none⟩,
  ⟨(some 74),(.mv (.t 0)),none⟩,
  ⟨(some 75),(.mv (.t 1)),none⟩,
  ⟨(some 76),(.slc (.slice 2) (.t 74) (some (.t 75)) none none),none⟩,
  ⟨(some 77),(.cpy 2 (.t 73) (.t 76)),none⟩] []) (.seq (.reg [
  ⟨(some 78),(.mv (.t 0)),none⟩,
  ⟨(some 79),(.mv (.t 1)),none⟩,
  ⟨(some 80),(.slc (.slice 2) (.t 78) (some (.t 79)) none none),none⟩,
  ⟨(some 81),(.mv (.t 2)),none⟩,
  ⟨(some 82),(.cpy 2 (.t 80) (.t 81)),none⟩])
 (.seq (.reg [
  ⟨(some 83),(.mv (.t 0)),none⟩,
  ⟨(some 6),(.mv (.t 83)),none⟩])
 .ret))
def sInsXC2 (csRor:FuncId):LC:=.seq (.reg [
  ⟨(some 84),(.mv (.t 0)),none⟩,
  ⟨(some 85),(.mv (.t 8)),none⟩,
  ⟨(some 86),(.slc (.slice 2) (.t 84) (some (.t 85)) none none),none⟩,
  ⟨(some 87),(.mv (.t 2)),none⟩,
  ⟨(some 88),(.cpy 2 (.t 86) (.t 87)),none⟩]) (.seq (.reg [
  ⟨(some 89),(.mv (.t 0)),none⟩,
  ⟨(some 90),(.mv (.t 1)),none⟩,
  ⟨(some 91),(.slc (.slice 2) (.t 89) (some (.t 90)) none none),none⟩,
  ⟨(some 92),(.mv (.t 7)),none⟩,
  ⟨(some 93),(.callF csRor [(.t 91),(.t 92)]),none⟩])
 (.seq (.reg [
  ⟨(some 94),(.mv (.t 0)),none⟩,
  ⟨(some 6),(.mv (.t 94)),none⟩])
 .ret))
def sInsXC1S (cal:FuncId->Bool)(O:Oracle)(N:Nat)(csRor:FuncId)(v0 v1 v2 v7 v8:IV)(H:Heap):Option (IV×Heap) :=
  ob (lbin .add v1 v7) fun t1 =>
  ob (lslice H (.slice 2) v0 (some t1) none none) fun t2 =>
  ob (lslice H (.slice 2) v0 (some v1) none none) fun t3 =>
  ob (lcpy H 2 t2 t3) fun r4 =>
  ob (lslice r4.2 (.slice 2) v0 (some v1) none none) fun t5 =>
  ob (lcpy r4.2 2 t5 v2) fun r6 =>
  some ((.tuple [v0,v0,v1,v2,v7,v8]),r6.2)
theorem sInsXC1Eq (cal:FuncId->Bool)(O:Oracle)(N:Nat)(csRor:FuncId)(hR:∀E H,k .ret E H=resK [(.tmp 6),(.tmp 0),(.tmp 1),(.tmp 2),(.tmp 7),(.tmp 8)] [] E H):∀(E:Sg) (H:Heap),lxK cal O N (sInsXC1 csRor) E H k=sInsXC1S cal O N csRor (lk E 0) (lk E 1) (lk E 2) (lk E 7) (lk E 8) H:=by
 have hk:k=(kR (resK [(.tmp 6),(.tmp 0),(.tmp 1),(.tmp 2),(.tmp 7),(.tmp 8)] []) k):=(kR_mk hR rfl);intro E H;rw[hk];show lxK cal O N (.drw [
  ⟨(some 69),(.mv (.t 0)),none⟩,
  ⟨(some 70),(.mv (.t 1)),none⟩,
  ⟨(some 71),(.mv (.t 7)),none⟩,
  ⟨(some 72),(.bin .add (.t 70) (.t 71)),none⟩,
  ⟨(some 73),(.slc (.slice 2) (.t 69) (some (.t 72)) none none),none⟩,
  ⟨(some 74),(.mv (.t 0)),none⟩,
  ⟨(some 75),(.mv (.t 1)),none⟩,
  ⟨(some 76),(.slc (.slice 2) (.t 74) (some (.t 75)) none none),none⟩,
  ⟨(some 77),(.cpy 2 (.t 73) (.t 76)),none⟩] []) E H (seqK (lxK cal O N (.seq (.reg [
  ⟨(some 78),(.mv (.t 0)),none⟩,
  ⟨(some 79),(.mv (.t 1)),none⟩,
  ⟨(some 80),(.slc (.slice 2) (.t 78) (some (.t 79)) none none),none⟩,
  ⟨(some 81),(.mv (.t 2)),none⟩,
  ⟨(some 82),(.cpy 2 (.t 80) (.t 81)),none⟩])
 (.seq (.reg [
  ⟨(some 83),(.mv (.t 0)),none⟩,
  ⟨(some 6),(.mv (.t 83)),none⟩])
 .ret))) (kR (resK [(.tmp 6),(.tmp 0),(.tmp 1),(.tmp 2),(.tmp 7),(.tmp 8)] []) k))=_
 kernel_rfl
def sInsXC2S (cal:FuncId->Bool)(O:Oracle)(N:Nat)(csRor:FuncId)(v0 v1 v2 v7 v8:IV)(H:Heap):Option (IV×Heap) :=
  ob (lslice H (.slice 2) v0 (some v8) none none) fun t1 =>
  ob (lcpy H 2 t1 v2) fun r2 =>
  ob (lslice r2.2 (.slice 2) v0 (some v1) none none) fun t3 =>
  ob (O csRor [t3,v7] r2.2) fun r4 =>
  some ((.tuple [v0,v0,v1,v2,v7,v8]),r4.2)
theorem sInsXC2Eq (cal:FuncId->Bool)(O:Oracle)(N:Nat)(csRor:FuncId)(hR:∀E H,k .ret E H=resK [(.tmp 6),(.tmp 0),(.tmp 1),(.tmp 2),(.tmp 7),(.tmp 8)] [] E H):∀(E:Sg) (H:Heap),lxK cal O N (sInsXC2 csRor) E H k=sInsXC2S cal O N csRor (lk E 0) (lk E 1) (lk E 2) (lk E 7) (lk E 8) H:=by
 have hk:k=(kR (resK [(.tmp 6),(.tmp 0),(.tmp 1),(.tmp 2),(.tmp 7),(.tmp 8)] []) k):=(kR_mk hR rfl);intro E H;rw[hk];show lxK cal O N (.reg [
  ⟨(some 84),(.mv (.t 0)),none⟩,
  ⟨(some 85),(.mv (.t 8)),none⟩,
  ⟨(some 86),(.slc (.slice 2) (.t 84) (some (.t 85)) none none),none⟩,
  ⟨(some 87),(.mv (.t 2)),none⟩,
  ⟨(some 88),(.cpy 2 (.t 86) (.t 87)),none⟩]) E H (seqK (lxK cal O N (.seq (.reg [
  ⟨(some 89),(.mv (.t 0)),none⟩,
  ⟨(some 90),(.mv (.t 1)),none⟩,
  ⟨(some 91),(.slc (.slice 2) (.t 89) (some (.t 90)) none none),none⟩,
  ⟨(some 92),(.mv (.t 7)),none⟩,
  ⟨(some 93),(.callF csRor [(.t 91),(.t 92)]),none⟩])
 (.seq (.reg [
  ⟨(some 94),(.mv (.t 0)),none⟩,
  ⟨(some 6),(.mv (.t 94)),none⟩])
 .ret))) (kR (resK [(.tmp 6),(.tmp 0),(.tmp 1),(.tmp 2),(.tmp 7),(.tmp 8)] []) k))=_
 kernel_rfl
def sInsXC0S (cal:FuncId->Bool)(O:Oracle)(N:Nat)(csRor:FuncId)(gN:IV->IV->IV->IV->IV->IV->Heap->Option (IV×Heap))(v0 v1 v2 v8 v68:IV)(H:Heap):Option (IV×Heap) :=
  ob (lslice H (.slice 2) v0 (some v1) none none) fun t1 =>
  ob (llen H .slice v2) fun t2 =>
  ob (lbin .eql t2 (.int .i64 0)) fun t3 =>
  cnd t3
  (some ((.tuple [v0,v0,v1,v2,t2,v8]),H))
  (ob (llen H .slice v0) fun t4 =>
  ob (lbin .eql v1 t4) fun t5 =>
  cnd t5
  (ob (lapp H 2 24 v0 v2) fun r6 =>
  some ((.tuple [r6.1,v0,v1,v2,t2,t4]),r6.2))
  (ob (lbin .add t4 t2) fun t7 =>
  ob (lcapV H v0) fun r8 =>
  ob (lbin .gtr t7 r8.1) fun t9 =>
  cnd t9
  (ob (lslice r8.2 (.slice 2) v0 none (some v1) none) fun t10 =>
  ob (lbin .add t4 t2) fun t11 =>
  ob (lbin .sub t11 v1) fun t12 =>
  ob (lappzV r8.2 2 24 [(.str []),(.int .i64 0)] t10 t12) fun r13 =>
  ob (lslice r13.2 (.slice 2) r13.1 (some v1) none none) fun t14 =>
  ob (lcpy r13.2 2 t14 v2) fun r15 =>
  ob (lbin .add v1 t2) fun t16 =>
  ob (lslice r15.2 (.slice 2) r13.1 (some t16) none none) fun t17 =>
  ob (lslice r15.2 (.slice 2) v0 (some v1) none none) fun t18 =>
  ob (lcpy r15.2 2 t17 t18) fun r19 =>
  some ((.tuple [r13.1,v0,v1,v2,t2,t4]),r19.2))
  (ob (lbin .add t4 t2) fun t20 =>
  ob (lslice r8.2 (.slice 2) v0 none (some t20) none) fun t21 =>
  gN t21 v1 v2 t2 t4 v68 r8.2)))
theorem sInsXC0Eq (cal:FuncId->Bool)(O:Oracle)(N:Nat)(csRor:FuncId)(gN:IV->IV->IV->IV->IV->IV->Heap->Option (IV×Heap))(hgN:∀E H,k .normal E H=gN (lk E 0) (lk E 1) (lk E 2) (lk E 7) (lk E 8) (lk E 68) H)(hR:∀E H,k .ret E H=resK [(.tmp 6),(.tmp 0),(.tmp 1),(.tmp 2),(.tmp 7),(.tmp 8)] [] E H):∀(E:Sg) (H:Heap),lxK cal O N (sInsXC0 csRor) E H k=sInsXC0S cal O N csRor gN (lk E 0) (lk E 1) (lk E 2) (lk E 8) (lk E 68) H:=by
 have hk:k=(kN (fun E H=>gN (lk E 0) (lk E 1) (lk E 2) (lk E 7) (lk E 8) (lk E 68) H) (kR (resK [(.tmp 6),(.tmp 0),(.tmp 1),(.tmp 2),(.tmp 7),(.tmp 8)] []) k)):=(kN_mk hgN (kR_mk hR rfl));intro E H;rw[hk];show lxK cal O N (.reg [
  ⟨(some 6),(.mv (.k .nilSlice)),none⟩]) E H (seqK (lxK cal O N (.seq (.reg [
  ⟨(some 10),(.mv (.t 0)),none⟩,
  ⟨(some 11),(.mv (.t 1)),none⟩,
  ⟨(some 12),(.slc (.slice 2) (.t 10) (some (.t 11)) none none),none⟩])
 (.seq (.reg [
  ⟨(some 13),(.mv (.t 2)),none⟩,
  ⟨(some 14),(.len .slice (.t 13)),none⟩,
  ⟨(some 7),(.mv (.t 14)),none⟩])
 (.seq (.seq (.reg [
  ⟨(some 15),(.mv (.t 7)),none⟩,
  ⟨(some 16),(.bin .eql (.t 15) (.k (.int .i64 0))),none⟩])
 (.cond (.t 16) (.seq (.reg [
  ⟨(some 17),(.mv (.t 0)),none⟩,
  ⟨(some 6),(.mv (.t 17)),none⟩])
 .ret)
 .skip))
 (.seq (.reg [
  ⟨(some 18),(.mv (.t 0)),none⟩,
  ⟨(some 19),(.len .slice (.t 18)),none⟩,
  ⟨(some 8),(.mv (.t 19)),none⟩])
 (.seq (.seq (.reg [
  ⟨(some 20),(.mv (.t 1)),none⟩,
  ⟨(some 21),(.mv (.t 8)),none⟩,
  ⟨(some 22),(.bin .eql (.t 20) (.t 21)),none⟩])
 (.cond (.t 22) (.seq (.reg [
  ⟨(some 23),(.mv (.t 0)),none⟩,
  ⟨(some 24),(.mv (.t 2)),none⟩,
  ⟨(some 25),(.app 2 24 (.t 23) (.t 24)),none⟩,
  ⟨(some 6),(.mv (.t 25)),none⟩])
 .ret)
 .skip))
 (.seq (.seq (.reg [
  ⟨(some 26),(.mv (.t 8)),none⟩,
  ⟨(some 27),(.mv (.t 7)),none⟩,
  ⟨(some 28),(.bin .add (.t 26) (.t 27)),none⟩,
  ⟨(some 29),(.mv (.t 0)),none⟩,
  ⟨(some 30),(.cap (.t 29)),none⟩,
  ⟨(some 31),(.bin .gtr (.t 28) (.t 30)),none⟩])
 (.cond (.t 31) (.seq (.reg [
  ⟨(some 32),(.mv (.t 0)),none⟩,
  ⟨(some 33),(.mv (.t 1)),none⟩,
  ⟨(some 34),(.slc (.slice 2) (.t 32) none (some (.t 33)) none),none⟩,
  ⟨(some 35),(.mv (.t 8)),none⟩,
  ⟨(some 36),(.mv (.t 7)),none⟩,
  ⟨(some 37),(.bin .add (.t 35) (.t 36)),none⟩,
  ⟨(some 38),(.mv (.t 1)),none⟩,
  ⟨(some 39),(.bin .sub (.t 37) (.t 38)),none⟩,
  ⟨(some 40),(.appz 2 24 [(.str []),(.int .i64 0)] (.t 34) (.t 39)),none⟩,
  ⟨(some 9),(.mv (.t 40)),none⟩])
 (.seq (.reg [
  ⟨(some 41),(.mv (.t 9)),none⟩,
  ⟨(some 42),(.mv (.t 1)),none⟩,
  ⟨(some 43),(.slc (.slice 2) (.t 41) (some (.t 42)) none none),none⟩,
  ⟨(some 44),(.mv (.t 2)),none⟩,
  ⟨(some 45),(.cpy 2 (.t 43) (.t 44)),none⟩])
 (.seq (.drw [
  ⟨(some 46),(.mv (.t 9)),none⟩,
  ⟨(some 47),(.mv (.t 1)),none⟩,
  ⟨(some 48),(.mv (.t 7)),none⟩,
  ⟨(some 49),(.bin .add (.t 47) (.t 48)),none⟩,
  ⟨(some 50),(.slc (.slice 2) (.t 46) (some (.t 49)) none none),none⟩,
  ⟨(some 51),(.mv (.t 0)),none⟩,
  ⟨(some 52),(.mv (.t 1)),none⟩,
  ⟨(some 53),(.slc (.slice 2) (.t 51) (some (.t 52)) none none),none⟩,
  ⟨(some 54),(.cpy 2 (.t 50) (.t 53)),none⟩] [])
 (.seq (.reg [
  ⟨(some 55),(.mv (.t 9)),none⟩,
  ⟨(some 6),(.mv (.t 55)),none⟩])
 .ret))))
 .skip))
 (.reg [
  ⟨(some 56),(.mv (.t 0)),none⟩,
  ⟨(some 57),(.mv (.t 8)),none⟩,
  ⟨(some 58),(.mv (.t 7)),none⟩,
  ⟨(some 59),(.bin .add (.t 57) (.t 58)),none⟩,
  ⟨(some 60),(.slc (.slice 2) (.t 56) none (some (.t 59)) none),none⟩,
  ⟨(some 0),(.mv (.t 60)),none⟩])))))))) (kN (fun E H=>gN (lk E 0) (lk E 1) (lk E 2) (lk E 7) (lk E 8) (lk E 68) H) (kR (resK [(.tmp 6),(.tmp 0),(.tmp 1),(.tmp 2),(.tmp 7),(.tmp 8)] []) k)))=_
 kernel_rfl
end Go.Shade
namespace Go.Shade
def gIns :IV->IV->IV->IV->IV->IV->Heap->Option (IV×Heap):=fun v0 v1 v2 v7 v8 v68 H=>some (.tuple [v0,v1,v2,v7,v8],H)
theorem one2_app {a b:List Pr}(h:one2 a)(k:one2 b):one2 (a++b):=fun p hp=>by
 rcases List.mem_append.1 hp with hp | hp
 ·exact h p hp
 ·exact k p hp
theorem one2_drop {a:List Pr}(h:one2 a)(n:Nat):one2 (a.drop n):=fun p hp=>h p (List.mem_of_mem_drop hp)
theorem lsl_p {H:Heap}{b o n lb k:Nat}{ex:Bool}{sz:Nat}{l:List Pr}(hb:H[b]? =some (.row (fl l) false))(hk:k<=n)(hl:o+k<=l.length):lsl H 2 (.slice b (2*o) n lb ex sz) k=some (fl ((l.drop o).take k)):=by
 simp only[lsl,if_pos hk];by_cases h0:k=0
 ·subst h0;simp[fl]
 ·rw[if_neg h0];simp only[irow,hb];rw[fl_length,if_pos (by omega),fl_drop,Nat.mul_comm k 2,fl_take]
theorem cpy_p {H:Heap}{b o nd lb k:Nat}{ex:Bool}{l new:List Pr}{x:IV}{nx:Nat}(hb:H[b]? =some (.row (fl l) false))(hx:xlen x=some nx)(hk:min nx nd=k)(h0:0<k)(hs:lxcells H 2 x k=some (fl new))(h1:one2 new)(hn:new.length=k)(hlb:0<lb)(ho:o+k<=l.length∨(o<=l.length/\l.length<o+k/\k<=lb)) :
  lcpy H 2 (.slice b (2*o) nd lb ex 2) x=some (.int .i64 (k:Nat),H.set b (.row (fl (l.take o++new++l.drop (o+k))) false)):=by
 unfold lcpy lcopy;have hd:xlen (.slice b (2*o) nd lb ex 2)=some nd:=rfl;simp only[hx,hd,Option.bind_some,hk];rw[if_neg (by omega),hs];simp only[Option.bind_some,hb];rw[if_pos ⟨fl_one h1,hlb⟩];have hfl:(fl new).length=2*k:=by rw[fl_length,hn]
 have hrow:cpyRow (fl l) (2*o) lb 2 2 (fl new)=some (fl (l.take o++new++l.drop (o+k))):=by
  unfold cpyRow;rw[hfl,fl_length];rcases ho with h | ⟨g1,g2,g3⟩
  ·rw[if_pos (by omega)]
   congr 1
   unfold putAt;split
   ·rename_i v hv;rw[hv]at hfl;simp at hfl;omega
   ·rw[hfl,show 2*o+2*k=2*(o+k) by omega,fl_take,fl_drop,fl_append,fl_append]
  ·rw[if_neg (by omega),if_pos ⟨by omega,rfl,by omega,by omega⟩]
   congr 1
   rw[fl_take,fl_append,fl_append,List.drop_eq_nil_of_le (by omega)];simp[fl]
 rw[hrow];rfl
end Go.Shade
namespace Go.Shade
variable {H : Heap} {b i n : Nat}
def ins (l:List Pr)(i:Nat)(e:Pr):List Pr:=l.take i++e::l.drop i
theorem fl1 (e:Pr):fl [e]=[e.1,e.2]:=rfl
theorem sl_from {o lb:Nat}{ex:Bool}(hi:i<=n)(hn:n<=lb):lslice H (.slice 2) (.slice b (2*o) n lb ex 2) (some (.int .i64 (i:Nat))) none none=some (.slice b (2*(o+i)) (n - i) (lb - i) ex 2):=by
 simp only[lslice,bnd,Option.bind_some];simp;omega
theorem sl_to {o lb:Nat}{ex:Bool}(hi:i<=lb):lslice H (.slice 2) (.slice b (2*o) n lb ex 2) none (some (.int .i64 (i:Nat))) none=some (.slice b (2*o) i lb ex 2):=by
 simp only[lslice,bnd,Option.bind_some];simp;omega
section
variable {cal : FuncId -> Bool} {O : Oracle} {N : Nat} {fr : FuncId}
def OneAt (H:Heap)(v:IV)(e:Pr):Prop:=llen H .slice v=some (.int .i64 1)/\xlen v=some 1/\lxcells H 2 v 1=some [e.1,e.2]
theorem ins_c1 {c:Nat}{l:List Pr}{v:IV}{e:Pr}{v8:IV}(hb:H[b]? =some (.row (fl l) false))(hl:l.length=n)(hin:i<n)(hc:n<c)(h1:one2 l)(he:e.1.one=true/\e.2.one=true)(hv:∀cs,OneAt (H.set b (.row cs false)) v e)(hn9:n<=1000000) :
  sInsXC1S cal O N fr (.slice b 0 (n+1) c true 2) (.int .i64 (i:Nat)) v (.int .i64 1) v8 H=some (.tuple [.slice b 0 (n+1) c true 2,.slice b 0 (n+1) c true 2,.int .i64 (i:Nat),v,.int .i64 1,v8],H.set b (.row (fl (ins l i e)) false)):=by
 unfold sInsXC1S;have z:(0:Nat)=2*0:=rfl;rw[lbin_add,ob_some,wrap_i64 (by omega) (by omega),show((i:Nat):Int)+1=((i+1:Nat):Int) by omega,z,sl_from (by omega) (by omega),ob_some,sl_from (by omega) (by omega),ob_some];simp only[Nat.zero_add];have hrd:lxcells H 2 (.slice b (2*i) (n+1 - i) (c - i) true 2) (n - i)=some (fl (l.drop i)):=by
  simp only[lxcells];rw[lsl_p hb (by omega) (by omega),List.take_of_length_le (by rw[List.length_drop];omega)]
 rw[cpy_p (k:=n - i) hb rfl (by omega) (by omega) hrd (one2_drop h1 i) (by rw[List.length_drop];omega) (by omega) (.inr ⟨by omega,by omega,by omega⟩),ob_some];simp only;rw[←z,show(0:Nat)=2*0 from rfl,sl_from (by omega) (by omega),ob_some];simp only[Nat.zero_add];rw[cpy_p (k:=1) (new:=[e]) (setAt hb) (hv (fl (l.take (i+1)++l.drop i++l.drop (i+1+(n - i))))).2.1 (by omega) (by omega) (hv (fl (l.take (i+1)++l.drop i++l.drop (i+1+(n - i))))).2.2 (fun p hp=>by rw[List.mem_singleton]at hp;subst hp;exact he) rfl (by omega) (.inl (by simp only[List.length_append,List.length_take,List.length_drop];omega)),ob_some];simp only;rw[List.set_set];have hfin:(l.take (i+1)++l.drop i++l.drop (i+1+(n - i))).take i++[e]++(l.take (i+1)++l.drop i++l.drop (i+1+(n - i))).drop (i+1)=ins l i e:=by
  have e1:l.drop (i+1+(n - i))=[]:=List.drop_eq_nil_of_le (by omega);rw[e1,List.append_nil];have l1:(l.take (i+1)).length=i+1:=by rw[List.length_take];omega
  rw[List.take_append_of_le_length (by omega),List.take_take,Nat.min_eq_left (by omega),List.drop_append_of_le_length (by omega),List.drop_eq_nil_of_le (by omega),List.nil_append];unfold ins;simp
 rw[hfin]
theorem ins_c2 (hr:∀(H:Heap) (b o n lb r:Nat) (ex:Bool) (l:List Pr),H[b]? =some (.row (fl l) false)->one2 l->1<=r->r<n->n<=lb->o+n<=l.length->n<=1000000->O fr [.slice b (2*o) n lb ex 2,.int .i64 (r:Nat)] H=some (.tuple [],H.set b (.row (fl (rot l o n (n - r))) false))) {H:Heap} {b n c i:Nat} {l:List Pr} {v:IV} {e:Pr} (hb:H[b]? =some (.row (fl l) false)) (hl:l.length=n) (hin:i<n) (hc:n<c) (h1:one2 l) (he:e.1.one=true/\e.2.one=true) (hv:∀cs,OneAt (H.set b (.row cs false)) v e) (hn9:n<1000000) :
  sInsXC2S cal O N fr (.slice b 0 (n+1) c true 2) (.int .i64 (i:Nat)) v (.int .i64 1) (.int .i64 (n:Nat)) H=some (.tuple [.slice b 0 (n+1) c true 2,.slice b 0 (n+1) c true 2,.int .i64 (i:Nat),v,.int .i64 1,.int .i64 (n:Nat)],H.set b (.row (fl (ins l i e)) false)):=by
 unfold sInsXC2S;have hv0:OneAt H v e:=by have:=hv (fl l);rwa [List.set_getElem?_self' hb]at this
 have o1:one2 (l++[e]):=one2_app h1 fun p hp=>by rw[List.mem_singleton]at hp;subst hp;exact he
 have z:(0:Nat)=2*0:=rfl;rw[z,sl_from (by omega) (by omega),ob_some];simp only[Nat.zero_add];rw[cpy_p (k:=1) (new:=[e]) hb hv0.2.1 (by omega) (by omega) hv0.2.2 (fun p hp=>by rw[List.mem_singleton]at hp;subst hp;exact he) rfl (by omega) (.inr ⟨by omega,by omega,by omega⟩),ob_some];simp only;have e1:l.take n++[e]++l.drop (n+1)=l++[e]:=by rw[List.take_of_length_le (by omega),List.drop_eq_nil_of_le (by omega),List.append_nil]
 rw[e1,←z,show(0:Nat)=2*0 from rfl,sl_from (by omega) (by omega),ob_some];simp only[Nat.zero_add];have:=hr (H.set b (.row (fl (l++[e])) false)) b i (n+1 - i) (c - i) 1 true (l++[e]) (setAt hb) o1 (by omega) (by omega) (by omega) (by simp;omega) (by omega);rw[show(((1:Nat):Int))=1 from rfl]at this;rw[this,ob_some];simp only;rw[List.set_set];have hfin:rot (l++[e]) i (n+1 - i) (n+1 - i - 1)=ins l i e:=by
  unfold rot ins;have q1:i+(n+1 - i - 1)=n:=by omega
  have q2:n+1 - i - (n+1 - i - 1)=1:=by omega
  have q3:i+(n+1 - i)=n+1:=by omega
  have a1:(l++[e]).take i=l.take i:=List.take_append_of_le_length (by omega);have a2:(l++[e]).drop n=[e]:=by rw[List.drop_append_of_le_length (by omega),List.drop_eq_nil_of_le (by omega),List.nil_append]
  have a3:(l++[e]).drop i=l.drop i++[e]:=List.drop_append_of_le_length (by omega);have a4:(l.drop i++[e]).take (n+1 - i - 1)=l.drop i:=by rw[List.take_append_of_le_length (by rw[List.length_drop];omega),List.take_of_length_le (by rw[List.length_drop];omega)]
  have a5:(l++[e]).drop (n+1)=[]:=List.drop_eq_nil_of_le (by simp;omega);rw[q1,q2,q3,a1,a2,a3,a4,a5];simp
 rw[hfin]
end
end Go.Shade
namespace Go.Shade
variable {H : Heap} {b n : Nat} {e : Pr} {v v68 v8 : IV}
section
variable {cal : FuncId -> Bool} {O : Oracle} {N : Nat} {fr : FuncId}
theorem ins_end {l:List Pr}(hb:H[b]? =some (.row (fl l) false))(hl:l.length=n)(h0:0<n)(h1:one2 l)(he:e.1.one=true/\e.2.one=true)(hv:OneAt H v e)(hn9:n<=1000000) :
  sInsXC0S cal O N fr gIns (.slice b 0 n n false 2) (.int .i64 (n:Nat)) v v8 v68 H=some (.tuple [.slice H.length 0 (n+1) (n+1) false 2,.slice b 0 n n false 2,.int .i64 (n:Nat),v,.int .i64 1,.int .i64 (n:Nat)],H.set b .dead++[.row (fl (ins l n e)) false]):=by
 unfold sInsXC0S;have z:(0:Nat)=2*0:=rfl;rw[z,sl_from (by omega) (by omega),ob_some,hv.1,ob_some,lbin_eql,ob_some,decide_eq_false (by omega),cnd_false,llen_slice,ob_some,lbin_eql,ob_some,decide_eq_true rfl,cnd_true];have hrd:lsl H 2 (.slice b (2*0) n n false 2) n=some (fl l):=by rw[lsl_p hb (by omega) (by omega),List.drop_zero,List.take_of_length_le (by omega)]
 have hins:ins l n e=l++[e]:=by unfold ins;rw[List.take_of_length_le (by omega),List.drop_eq_nil_of_le (by omega)]
 have happ:lapp H 2 24 (.slice b (2*0) n n false 2) v=some (.slice H.length 0 (n+1) (n+1) false 2,H.set b .dead++[.row (fl (ins l n e)) false]):=by
  unfold lapp lappend;simp only[hv.2.1,Option.bind_some];rw[if_neg (by omega),hv.2.2];simp only[Option.bind_some];rw[if_pos ⟨rfl,by simp[he.1,he.2]⟩,if_neg (by omega),hrd];simp only[Option.bind_some,Bool.false_eq_true,if_false,hb,if_true];unfold lfresh;rw[if_pos ⟨by omega,by simp[fl_length];omega⟩,hins,fl_append,fl1];simp
 rw[happ,ob_some]
theorem ins_nil (he:e.1.one=true/\e.2.one=true)(hv:OneAt H v e) :
  sInsXC0S cal O N fr gIns .nilSlice (.int .i64 0) v v8 v68 H=some (.tuple [.slice H.length 0 1 1 false 2,.nilSlice,.int .i64 0,v,.int .i64 1,.int .i64 0],H++[.row (fl [e]) false]):=by
 unfold sInsXC0S;have s1:lslice H (.slice 2) .nilSlice (some (.int .i64 0)) none none=some .nilSlice:=rfl;have s2:llen H .slice .nilSlice=some (.int .i64 0):=rfl;rw[s1,ob_some,hv.1,ob_some,lbin_eql,ob_some,decide_eq_false (by omega),cnd_false,s2,ob_some,lbin_eql,ob_some,decide_eq_true rfl,cnd_true];have happ:lapp H 2 24 .nilSlice v=some (.slice H.length 0 1 1 false 2,H++[.row (fl [e]) false]):=by
  unfold lapp lappend;simp only[hv.2.1,Option.bind_some];rw[if_neg (by omega),hv.2.2];simp only[Option.bind_some];rw[if_pos ⟨rfl,by simp[he.1,he.2]⟩];rfl
 rw[happ,ob_some]
theorem ins_room {c i:Nat}(hin:i<n)(hc:n<c)(hv:OneAt H v e)(hn9:n<=1000000) :
  sInsXC0S cal O N fr gIns (.slice b 0 n c true 2) (.int .i64 (i:Nat)) v v8 v68 H=some (.tuple [.slice b 0 (n+1) c true 2,.int .i64 (i:Nat),v,.int .i64 1,.int .i64 (n:Nat)],H):=by
 unfold sInsXC0S;have z:(0:Nat)=2*0:=rfl;have hcap:lcapV H (.slice b (2*0) n c true 2)=some (.int .i64 c,H):=rfl;rw[z,sl_from (by omega) (by omega),ob_some,hv.1,ob_some,lbin_eql,ob_some,decide_eq_false (by omega),cnd_false,llen_slice,ob_some,lbin_eql,ob_some,decide_eq_false (by omega),cnd_false,lbin_add,ob_some,wrap_i64 (by omega) (by omega),hcap,ob_some,lbin_gtr,ob_some,decide_eq_false (by omega),cnd_false,ob_some,show((n:Nat):Int)+1=((n+1:Nat):Int) by omega,sl_to (by omega),ob_some];rfl
theorem ins_grow {i:Nat}{l:List Pr}(hb:H[b]? =some (.row (fl l) false))(hl:l.length=n)(hin:i<n)(h1:one2 l)(he:e.1.one=true/\e.2.one=true)(hv:∀r:List IObj,OneAt (H++r) v e)(hn9:n<=1000000) :
  sInsXC0S cal O N fr gIns (.slice b 0 n n true 2) (.int .i64 (i:Nat)) v v8 v68 H=some (.tuple [.slice H.length 0 (n+1) (n+1) false 2,.slice b 0 n n true 2,.int .i64 (i:Nat),v,.int .i64 1,.int .i64 (n:Nat)],H++[.row (fl (ins l i e)) false]):=by
 unfold sInsXC0S;have hv0:OneAt H v e:=by have:=hv [];rwa [List.append_nil]at this
 have z:(0:Nat)=2*0:=rfl;have hcap:lcapV H (.slice b (2*0) n n true 2)=some (.int .i64 n,H):=rfl;rw[z,sl_from (by omega) (by omega),ob_some,hv0.1,ob_some,lbin_eql,ob_some,decide_eq_false (by omega),cnd_false,llen_slice,ob_some,lbin_eql,ob_some,decide_eq_false (by omega),cnd_false,lbin_add,ob_some,wrap_i64 (by omega) (by omega),hcap,ob_some,lbin_gtr,ob_some,decide_eq_true (by omega),cnd_true,sl_to (by omega),ob_some,ob_some,lbin_sub,ob_some,wrap_i64 (by omega) (by omega),show((n:Nat):Int)+1 - ((i:Nat):Int)=((n+1 - i:Nat):Int) by omega];have hrd:lsl H 2 (.slice b (2*0) i n true 2) i=some (fl (l.take i)):=by rw[lsl_p hb (by omega) (by omega),List.drop_zero]
 have hz:∀k,zrep k [(.str []),(.int .i64 0)]=fl (List.replicate k (.str [],.int .i64 0)):=by
  intro k
  induction k with
  | zero=>rfl
  | succ k ih=>simp only[zrep,List.replicate_succ,List.flatten_cons,fl]at ih ⊢;rw[ih];rfl
 have happ:lappzV H 2 24 [(.str []),(.int .i64 0)] (.slice b (2*0) i n true 2) (.int .i64 ((n+1 - i:Nat):Int))=some (.slice H.length (2*0) (n+1) (n+1) false 2,H++[.row (fl (l.take i++List.replicate (n+1 - i) (.str [],.int .i64 0))) false]):=by
  unfold lappzV lappz;simp only[Int.toNat_natCast];rw[if_pos (by omega),if_pos ⟨by omega,trivial⟩,hrd];simp only[Option.bind_some];have e1:i+(n+1 - i)=n+1:=by omega
  rw[e1,if_pos ⟨by omega,by rw[fl_length,List.length_take];omega⟩,hz,fl_append]
 rw[happ,ob_some];simp only;have hbn:=newRow (H:=H) (o:=IObj.row (fl (l.take i++List.replicate (n+1 - i) (.str [],.int .i64 0))) false);have hlen:(l.take i++List.replicate (n+1 - i) ((.str [],.int .i64 0):Pr)).length=n+1:=by simp;omega
 rw[sl_from (by omega) (by omega),ob_some];simp only[Nat.zero_add];have hv1:=hv [IObj.row (fl (l.take i++List.replicate (n+1 - i) (.str [],.int .i64 0))) false];rw[cpy_p (k:=1) (new:=[e]) hbn hv1.2.1 (by omega) (by omega) hv1.2.2 (fun p hp=>by rw[List.mem_singleton]at hp;subst hp;exact he) rfl (by omega) (.inl (by omega)),ob_some];simp only;rw[lbin_add,ob_some,wrap_i64 (by omega) (by omega),show((i:Nat):Int)+1=((i+1:Nat):Int) by omega,sl_from (by omega) (by omega),ob_some,sl_from (by omega) (by omega),ob_some];simp only[Nat.zero_add];rw[setRow];have hb2:(H++[IObj.row (fl ((l.take i++List.replicate (n+1 - i) ((.str [],.int .i64 0):Pr)).take i++[e]++(l.take i++List.replicate (n+1 - i) ((.str [],.int .i64 0):Pr)).drop (i+1))) false])[b]? =some (.row (fl l) false):=by
  rw[List.getElem?_append_left (ges hb).1];exact hb
 have hrd2:lxcells (H++[IObj.row (fl ((l.take i++List.replicate (n+1 - i) ((.str [],.int .i64 0):Pr)).take i++[e]++(l.take i++List.replicate (n+1 - i) ((.str [],.int .i64 0):Pr)).drop (i+1))) false]) 2 (.slice b (2*i) (n - i) (n - i) true 2) (n - i)=some (fl (l.drop i)):=by
  simp only[lxcells];rw[lsl_p hb2 (by omega) (by omega),List.take_of_length_le (by rw[List.length_drop];omega)]
 rw[cpy_p (k:=n - i) newRow rfl (by omega) (by omega) hrd2 (one2_drop h1 i) (by rw[List.length_drop];omega) (by omega) (.inl (by simp only[List.length_append,List.length_take,List.length_drop,List.length_cons,List.length_nil,List.length_replicate];omega)),ob_some];rw[setRow];have hfin:((l.take i++List.replicate (n+1 - i) ((.str [],.int .i64 0):Pr)).take i++[e]++(l.take i++List.replicate (n+1 - i) ((.str [],.int .i64 0):Pr)).drop (i+1)).take (i+1)++l.drop i++((l.take i++List.replicate (n+1 - i) ((.str [],.int .i64 0):Pr)).take i++[e]++(l.take i++List.replicate (n+1 - i) ((.str [],.int .i64 0):Pr)).drop (i+1)).drop (i+1+(n - i))=ins l i e:=by
  have q1:(l.take i++List.replicate (n+1 - i) ((.str [],.int .i64 0):Pr)).take i=l.take i:=by
   rw[List.take_append_of_le_length (by rw[List.length_take];omega),List.take_take,Nat.min_self]
  rw[q1];generalize hD:(l.take i++List.replicate (n+1 - i) ((.str [],.int .i64 0):Pr)).drop (i+1)=D;have hDl:D.length=n - i:=by rw[←hD,List.length_drop,hlen];omega
  have l1:(l.take i++[e]).length=i+1:=by simp;omega
  have a1:(l.take i++[e]++D).take (i+1)=l.take i++[e]:=by rw[List.take_append_of_le_length (by omega),List.take_of_length_le (by omega)]
  have a2:(l.take i++[e]++D).drop (i+1+(n - i))=[]:=List.drop_eq_nil_of_le (by rw[List.length_append];omega);rw[a1,a2];unfold ins;simp
 rw[hfin]
end
end Go.Shade
namespace Go.Shade
open Go.RowKit
def canon (h0:Nat)(o:IV×Heap):Option (IV×Heap) :=
 if Nat.ble h0 o.2.length&&(o.2.take h0).all (inBO h0)then
  match inB h0 o.1,o.1 with
  | true,v=>some (v,o.2.take h0)
  | false,.tuple (.slice q 0 n lb ex sz::vs)=>match o.2[q]? with
   | some (.row cs false)=>if Nat.ble h0 q&&(inBs h0 cs&&inBs h0 vs)then some (.tuple (.slice h0 0 n lb ex sz::vs),o.2.take h0++[.row cs false])else none
   | _=>none
  | _,_=>none
 else none
def wpick (h0:Nat):List (IV×Heap)->Option (IV×Heap)
 | []=>none
 | [o]=>some o
 | o::os=>match canon h0 o with
  | none=>none
  | some c=>if os.all (fun p=>match canon h0 p with
   | some d=>ivb d.1 c.1&&hpb d.2 c.2
   | none=>false)then some c else none
theorem canon_post {B0:Nat}{w0 w w':World}{m m':Mp}{H:Heap}{o c:IV×Heap}{u:Value}(hR:Rel B0 w0 m H w)(hext:Ext m m')(hR':Rel B0 w0 m' o.2 w')(hu:VR m' o.1 u)(hc:canon H.length o=some c) :
  ∃m'',Ext m m''/\Rel B0 w0 m'' c.2 w'/\VR m'' c.1 u:=by
 unfold canon at hc;split at hc
 ·rename_i hok;simp only[Bool.and_eq_true,List.all_eq_true]at hok;obtain⟨h1,h2⟩:=hok;have h1:=nble h1;have hlen:(o.2.take H.length).length=H.length:=by rw[List.length_take];omega
  have old:∀(i:Nat) x,(o.2.take H.length)[i]? =some x->i<H.length/\inBO H.length x=true/\o.2[i]? =some x:=by
   intro i x hi;have hm:=h2 x (List.mem_of_getElem? hi);rw[List.getElem?_take]at hi;split at hi
   ·rename_i hlt;exact⟨hlt,hm,hi⟩
   ·cases hi
  split at hc
  ·rename_i v hv
   cases hc
   refine⟨sub (o.2.take H.length).length id m',fun i l hi=> ?_,hR'.gc id (fun i x hi=> ?_) (fun _ _ _ _ h=>h),VR_ren _ u (by rw[hlen];exact hv) ?_⟩
   ·simp only[sub,hlen,if_pos (hR.dom i l hi)];exact hext i l hi
   ·obtain⟨a,b,d⟩:=old i x hi;rw[hlen];exact⟨b,by rw[renO_id (n:=H.length) (f:=id) (fun _ _=>rfl) b];exact d⟩
   ·rw[ren_id (n:=H.length) (f:=id) (fun _ _=>rfl) _ hv];exact hu
  ·rename_i q n lb ex sz vs hv he;rw[he]at hu;split at hc
   ·rename_i cs hq;split at hc
    ·rename_i hok
     cases hc
     simp only[Bool.and_eq_true]at hok;obtain⟨g1,g2,g3⟩:=hok;have g1:=nble g1;have hlK:(o.2.take H.length++[IObj.row cs false]).length=H.length+1:=by rw[List.length_append,hlen];rfl
     have hf:∀i,i<H.length->(fun i=>if i=H.length then q else i) i=i:=fun i hi=>if_neg (by omega);refine⟨sub (o.2.take H.length++[IObj.row cs false]).length (fun i=>if i=H.length then q else i) m',fun i l hi=> ?_,hR'.gc (fun i=>if i=H.length then q else i) (fun i x hi=> ?_) (fun i j hi hj hne=> ?_),VR_ren _ u ?_ ?_⟩
     ·have:=hR.dom i l hi;simp only[sub,hlK];rw[if_pos (by omega),if_neg (by omega)];exact hext i l hi
     ·rw[hlK];rw[List.getElem?_append]at hi;split at hi
      ·obtain⟨a,b,d⟩:=old i x hi;refine⟨inBO_le (by omega) b,?_⟩;rw[renO_id hf b];show o.2[if i=H.length then q else i]? =_;rw[if_neg (by omega)];exact d
      ·rename_i hge;rw[hlen]at hge hi;have hz:i - H.length=0:=by
        rcases Nat.eq_zero_or_pos (i - H.length)with e | e
        ·exact e
        ·rw[List.getElem?_eq_none (by simp;omega)]at hi;exact absurd hi (by simp)
       rw[hz]at hi;simp at hi;subst hi;have hi':i=H.length:=by omega
       subst hi';refine⟨inBs_le (by omega) cs g2,?_⟩;simp only[if_true,renO];rw[rens_id hf cs g2];exact hq
     ·rw[hlK]at hi hj;by_cases e1:i=H.length
      ·rw[if_pos e1,if_neg (by omega)];omega
      ·rw[if_neg e1];by_cases e2:j=H.length
       ·rw[if_pos e2];omega
       ·rw[if_neg e2];exact hne
     ·rw[hlK];simp only[inB,inBs,Bool.and_eq_true,decide_eq_true_eq];exact⟨by omega,inBs_le (by omega) vs g3⟩
     ·simp only[ren,rens,if_true];rw[rens_id hf vs g3];exact hu
    ·cases hc
   ·cases hc
  ·cases hc
 ·cases hc
theorem wpick_canon {h0:Nat}:∀{L:List (IV×Heap)} {c:IV×Heap},wpick h0 L=some c->(L=[c])∨∀o∈L,canon h0 o=some c
 | [],c,h=>by cases h
 | [o],c,h=>by cases h;exact .inl rfl
 | o::p::os,c,h=>by
  right;simp only[wpick]at h;split at h
  ·cases h
  ·rename_i d hd;split at h
   ·rename_i hall
    cases h
    intro x hx;rcases List.mem_cons.1 hx with rfl | hx
    ·exact hd
    ·have:=List.all_eq_true.1 hall x hx;split at this
     ·rename_i e he;simp only[Bool.and_eq_true]at this;rw[he]
      congr 1
      exact Prod.ext (ivb_eq _ _ this.1) (hpb_eq this.2)
     ·cases this
   ·cases h
theorem sim_pick {P:Program}{f:FuncId}{args:List IV}{H:Heap}{L:List (IV×Heap)}{c:IV×Heap}(h:SimW P f args H (fun r H'=>(r,H')∈L))(hc:wpick H.length L=some c):SimCall P f args H c.1 c.2:=by
 intro B0 w0 w m us hR hA;refine(h B0 w0 w m us hR hA).mono ?_;rintro e w' ⟨r,H',m',u,hmem,he,hext,hR',hu⟩;rcases wpick_canon hc with rfl | hall
 ·have:=List.mem_singleton.1 hmem;subst this;exact⟨m',u,he,hext,hR',hu⟩
 ·obtain⟨m'',k1,k2,k3⟩:=canon_post hR hext hR' hu (hall _ hmem);exact⟨m'',u,he,k1,k2,k3⟩
theorem sim_closed {P:Program}{f:FuncId}{args:List IV}{v:IV}{H':Heap}(h:SimCall P f args [] v H')(ha:inBs 0 args=true)(hv:inB 0 v=true)(H:Heap):SimCall P f args H v H:=by
 intro B0 w0 w m us hR hA;have hA0:VRs (fun _=>none) args us.toList:=by
  have:=VRs_ren (f:=id) (n:=0) (m:=m) args us.toList ha (by rw[rens_id (n:=0) (fun _ h=>absurd h (by omega)) args ha];exact hA);exact VRs.ext (fun i l hi=>by simp[sub]at hi) _ _ this
 refine(h w.heap.size w w _ us (rel_start w) hA0).mono ?_;rintro e w' ⟨m',u,he,hext,hR',hu⟩;refine⟨m,u,he,Ext.refl m,hR.under hR'.below,?_⟩;have:=VR_ren (f:=id) (n:=0) (m:=m') v u hv (by rw[ren_id (n:=0) (fun _ h=>absurd h (by omega)) v hv];exact hu);exact VR.ext (fun i l hi=>by simp[sub]at hi) _ _ this
def isT :Option (IV×Heap)->Bool
 | some (.bool true,_)=>true
 | _=>false
end Go.Shade
namespace Go.Shade
def LoF (P:Program)(f:FuncId)(lf:LFun):Prop:=(∃fn,P.funcs[f]? =some fn/\lowF P fn=some lf)/\callable P f=true
section
variable {P : Program} {T : Table}
theorem denLo {f:FuncId}{lf:LFun}(h0:T f=none)(hl:LoF P f lf)(N:Nat){args:List IV}{H:Heap}{x:IV×Heap}(hn:args.length<=lf.n)(hr:lrunK (callable P) (den P T) N lf args H=some x):den P T f args H=some x:=by
 obtain⟨⟨fn,g1,g2⟩,_⟩:=hl;exact low_den (cal:=callable P) (fun _ h=>h) h0 g1 g2 hn (lrunK_le hr)
theorem denWp {f:FuncId}{lf:LFun}(h0:T f=none)(hl:LoF P f lf)(N:Nat){args:List IV}{H:Heap}{Q:Out->Prop}(hn:args.length<=lf.n)(hr:Wp (lrunK (callable P) (den P T) N lf args H) Q):Wp (den P T f args H) Q:=by
 obtain⟨x,h1,h2⟩:=hr;exact⟨x,denLo h0 hl N hn h1,h2⟩
end
end Go.Shade
namespace Go.Shade
variable {H : Heap}
def insL (fr:FuncId):LFun:=⟨lappN 7 (sInsXC0 fr) (.seq (.seq (.reg [⟨some 61,.mv (.t 2),none⟩,⟨some 62,.mv (.t 0),none⟩,⟨some 63,.mv (.t 1),none⟩,⟨some 64,.mv (.t 7),none⟩,⟨some 65,.bin .add (.t 63) (.t 64),none⟩,⟨some 66,.slc (.slice 2) (.t 62) (some (.t 65)) none none,none⟩,⟨some 67,.ovl (.t 61) (.t 66),none⟩,⟨some 68,.un .not (.t 67),none⟩]) (.cond (.t 68) (sInsXC1 fr) .skip)) (sInsXC2 fr)),[.tmp 6],95⟩
def insRs :List LRes:=[(.tmp 6),(.tmp 0),(.tmp 1),(.tmp 2),(.tmp 7),(.tmp 8)]
def insK :KT (IV×Heap):=fun x E H=>match x with
 | .normal=>gIns (lk E 0) (lk E 1) (lk E 2) (lk E 7) (lk E 8) (lk E 68) H
 | .ret=>resK insRs [] E H
 | .exit _=>none
def insR :KT (IV×Heap):=fun x E H=>match x with
 | .ret=>resK insRs [] E H
 | _=>none
theorem insK_ret {E:Sg}{r:Out}(h:resK insRs [] E H=some r):r=(.tuple [lk E 6,lk E 0,lk E 1,lk E 2,lk E 7,lk E 8],H):=by cases h;rfl
theorem insK_nor {E:Sg}{r:Out}(h:insK .normal E H=some r):r=(.tuple [lk E 0,lk E 1,lk E 2,lk E 7,lk E 8],H):=by cases h;rfl
section
variable {cal : FuncId -> Bool} {O : Oracle} {N : Nat} {fr : FuncId}
theorem ins_ret_w {v0 v1 v2 res a b c d:IV}{H':Heap}(hA:∀v8 v68,∃e,sInsXC0S cal O N fr gIns v0 v1 v2 v8 v68 H=some (.tuple [res,a,b,c,d,e],H')):lrunW cal O N (insL fr) [v0,v1,v2] H fun r K=>r=res/\K=H':=by
 unfold lrunW insL;refine lappN_W ?_;show lxW cal O N (sInsXC0 fr) _ H _;obtain⟨e,hA⟩:=hA (.tuple []) (.tuple []);refine lxK_W (k:=insK) (Q:=fun r=>r=(.tuple [res,a,b,c,d,e],H')) ?_ ?_
 ·rw[sInsXC0Eq cal O N fr (k:=insK) gIns (fun _ _=>rfl) (fun _ _=>rfl)];exact⟨_,hA,rfl⟩
 ·rintro x E K r hx rfl
  cases x with
  | exit id=>cases hx
  | normal =>
   have:=insK_nor hx;simp at this
  | ret =>
   have:=insK_ret hx;simp only[Prod.mk.injEq,IV.tuple.injEq,List.cons.injEq]at this;exact⟨[res],by rw[this.1.1];rfl,rfl,this.2.symm⟩
theorem ins_room_w (hrot:∀(H:Heap) (b o n lb r:Nat) (ex:Bool) (l:List Pr),H[b]? =some (.row (fl l) false)->one2 l->1<=r->r<n->n<=lb->o+n<=l.length->n<=1000000->O fr [.slice b (2*o) n lb ex 2,.int .i64 (r:Nat)] H=some (.tuple [],H.set b (.row (fl (rot l o n (n - r))) false)))
  {H:Heap} {b n c i:Nat} {l:List Pr} {e:Pr} {vb vo vl:Nat} {vx:Bool} {vs:Nat} (hb:H[b]? =some (.row (fl l) false)) (hl:l.length=n) (hin:i<n) (hc:n<c) (h1:one2 l) (he:e.1.one=true/\e.2.one=true) (hv:∀cs,OneAt (H.set b (.row cs false)) (.slice vb vo 1 vl vx vs) e) (hvr:rowThere H[vb]? =true) (hn9:n<1000000) :
  lrunW cal O N (insL fr) [.slice b 0 n c true 2,.int .i64 (i:Nat),.slice vb vo 1 vl vx vs] H fun r K=>r=.slice b 0 (n+1) c true 2/\K=H.set b (.row (fl (ins l i e)) false):=by
 have hv0:OneAt H (.slice vb vo 1 vl vx vs) e:=by have:=hv (fl l);rwa [List.set_getElem?_self' hb]at this
 unfold lrunW insL;refine lappN_W ?_;show lxW cal O N (sInsXC0 fr) _ H _;refine lxK_W (k:=insK) (Q:=fun r=>r=(.tuple [.slice b 0 (n+1) c true 2,.int .i64 (i:Nat),.slice vb vo 1 vl vx vs,.int .i64 1,.int .i64 (n:Nat)],H)) ?_ ?_
 ·rw[sInsXC0Eq cal O N fr (k:=insK) gIns (fun _ _=>rfl) (fun _ _=>rfl)];exact⟨_,ins_room hin hc hv0 (by omega),rfl⟩
 ·rintro x E K r hx rfl
  cases x with
  | exit id=>cases hx
  | ret=>have:=insK_ret hx;simp at this
  | normal =>
   have:=insK_nor hx;simp only[Prod.mk.injEq,IV.tuple.injEq,List.cons.injEq,and_true]at this;obtain⟨⟨b0,b1,b2,b7,b8⟩,rfl⟩:=this;simp only[lxW,lopsW];refine⟨_,lopW_q rfl rfl,fun r hr=> ?_⟩;rw[List.mem_singleton]at hr;subst hr;refine⟨_,lopW_q rfl rfl,fun r hr=> ?_⟩;rw[List.mem_singleton]at hr;subst hr;refine⟨_,lopW_q rfl rfl,fun r hr=> ?_⟩;rw[List.mem_singleton]at hr;subst hr;refine⟨_,lopW_q rfl rfl,fun r hr=> ?_⟩;rw[List.mem_singleton]at hr;subst hr;simp only[pput];refine⟨_,lopW_q (v:=.int .i64 ((i+1:Nat):Int)) rfl ?_,fun r hr=> ?_⟩
   ·show lbin .add (lk E 1) (lk E 7)=_;rw[←b1,←b7,lbin_add,wrap_i64 (by omega) (by omega)];congr 1
   rw[List.mem_singleton]at hr;subst hr;refine⟨_,lopW_q (v:=.slice b (2*(i+1)) (n - i) (c - (i+1)) true 2) rfl ?_,fun r hr=> ?_⟩
   ·show lslice H (.slice 2) (lk E 0) (some (.int .i64 ((i+1:Nat):Int))) none none=_;rw[←b0,show(0:Nat)=2*0 from rfl,sl_from (by omega) (by omega)]
    congr 2<;>omega
   rw[List.mem_singleton]at hr;subst hr;refine⟨[(.bool false,H),(.bool true,H)],?_,fun r hr=> ?_⟩
   ·show stOvl H (lk E 2) (.slice b (2*(i+1)) (n - i) (c - (i+1)) true 2)=_;rw[←b2];simp only[stOvl];rw[if_pos ⟨by omega,by omega,hvr,by rw[hb];rfl⟩]
   have two:r=(.bool false,H)∨r=(.bool true,H):=by simpa using hr
   rcases two with rfl | rfl
   ·refine⟨_,lopW_q (v:=.bool true) rfl rfl,fun r hr=> ?_⟩;rw[List.mem_singleton]at hr;subst hr;simp only[pput];show lxW cal O N (sInsXC1 fr) _ H _;refine lxK_W (k:=insR) (Q:=fun r=>∃v8,r=(.tuple [.slice b 0 (n+1) c true 2,.slice b 0 (n+1) c true 2,.int .i64 (i:Nat),.slice vb vo 1 vl vx vs,.int .i64 1,v8],H.set b (.row (fl (ins l i e)) false))) ?_ ?_
    ·rw[sInsXC1Eq cal O N fr (k:=insR) (fun _ _=>rfl)];show Wp (sInsXC1S cal O N fr (lk E 0) (lk E 1) (lk E 2) (lk E 7) (lk E 8) H) _;rw[←b0,←b1,←b2,←b7,ins_c1 hb hl hin hc h1 he hv (by omega)];exact⟨_,rfl,_,rfl⟩
    ·rintro x σ2 H2 r hx ⟨v8,rfl⟩
     cases x with
     | exit id=>cases hx
     | normal=>cases hx
     | ret =>
      have:=insK_ret hx;simp only[Prod.mk.injEq,IV.tuple.injEq,List.cons.injEq]at this;exact⟨[.slice b 0 (n+1) c true 2],by rw[this.1.1];rfl,rfl,this.2.symm⟩
   ·refine⟨_,lopW_q (v:=.bool false) rfl rfl,fun r hr=> ?_⟩;rw[List.mem_singleton]at hr;subst hr;simp only[pput];show lxW cal O N (sInsXC2 fr) _ H _;refine lxK_W (k:=insR) (Q:=fun r=>r=(.tuple [.slice b 0 (n+1) c true 2,.slice b 0 (n+1) c true 2,.int .i64 (i:Nat),.slice vb vo 1 vl vx vs,.int .i64 1,.int .i64 (n:Nat)],H.set b (.row (fl (ins l i e)) false))) ?_ ?_
    ·rw[sInsXC2Eq cal O N fr (k:=insR) (fun _ _=>rfl)];show Wp (sInsXC2S cal O N fr (lk E 0) (lk E 1) (lk E 2) (lk E 7) (lk E 8) H) _;rw[←b0,←b1,←b2,←b7,←b8,ins_c2 hrot hb hl hin hc h1 he hv hn9];exact⟨_,rfl,rfl⟩
    ·rintro x σ2 H2 r hx rfl
     cases x with
     | exit id=>cases hx
     | normal=>cases hx
     | ret =>
      have:=insK_ret hx;simp only[Prod.mk.injEq,IV.tuple.injEq,List.cons.injEq]at this;exact⟨[.slice b 0 (n+1) c true 2],by rw[this.1.1];rfl,rfl,this.2.symm⟩
end
end Go.Shade
namespace Go.Shade
open Go.RowKit
theorem Rel.shrink {B0:Nat}{w0 w:World}{m:Mp}{H:Heap}(h:Rel B0 w0 m H w){b:Nat}{cs:List IV}(hb:H[b]? =some (.row cs false))(k:Nat):Rel B0 w0 m (H.set b (.row (cs.take k) false)) w:=by
 have held_of:∀{a:Nat} {p:IObj},(H.set b (IObj.row (cs.take k) false))[a]? =some p->∃p',H[a]? =some p'/\(p.held=true->p'.held=true):=by
  intro a p ha;rw[List.getElem?_set]at ha;by_cases e:b=a
  ·subst e;exact⟨_,hb,fun _=>rfl⟩
  ·rw[if_neg e]at ha;exact⟨p,ha,id⟩
 refine⟨h.below,h.base,fun i l hi=>by simpa using h.dom i l hi,fun i o hi=> ?_,fun i j p q la lb ha hb' hp hq hne hma hmb=> ?_⟩
 ·rw[List.getElem?_set]at hi;by_cases e:b=i
  ·subst e;have hlt:=(ges hb).1;simp[hlt]at hi;subst hi;obtain⟨l,C,e,fr,g1,g2,g3,g4,g5,g6,g7⟩:=h.good b _ hb;refine⟨l,C,e,fr,g1,g2,g3,by rw[List.length_take];omega,g5,g6,fun j v hj=> ?_⟩;rw[List.getElem?_take]at hj;split at hj
   ·exact g7 j v hj
   ·cases hj
  ·rw[if_neg e]at hi;exact h.good i o hi
 ·obtain⟨p',ha',hp'⟩:=held_of ha;obtain⟨q',hb'',hq'⟩:=held_of hb';exact h.inj i j p' q' la lb ha' hb'' (hp' hp) (hq' hq) hne hma hmb
theorem Rel.anew {B0:Nat}{w0 w:World}{m:Mp}{H:Heap}(h:Rel B0 w0 m H w){b:Nat}{cs:List IV}(hb:H[b]? =some (.row cs false)){l:Loc}(hl:m b=some l):Rel B0 w0 (grow m H.length l) (H.set b .dead++[.row cs false]) w:=by
 obtain⟨l',C,e,fr,g1,g2,g3,g4,g5,g6,g7⟩:=h.good b _ hb;rw[hl]at g1;cases g1
 have:=(h.onward hb hl (o1:=l.co) (old:=cs) (new:=[]) (nus:=[]) (fun j v hj=>by
  obtain⟨a,u,hu,hr⟩:=g7 j v hj;exact⟨a,u,by rw[cell_of g2];exact hu,hr⟩) (VRs.nil m) rfl (by simpa using g4)).2
 rw[List.append_nil]at this;exact this
theorem oneAt_of {H K:Heap}{vb vo vl vs:Nat}{vx:Bool}{e:Pr}(h:K[vb]? =H[vb]?)(hv:lsl H 2 (.slice vb vo 1 vl vx vs) 1=some [e.1,e.2]):OneAt K (.slice vb vo 1 vl vx vs) e:=by
 refine⟨rfl,rfl,?_⟩;simp only[lxcells,lsl,irow]at hv ⊢;rw[h];exact hv
theorem sim_insert {P:Program}{O:Oracle}(hφ:Sound P O)(hm:P.follows .mixedOrders=true){f fr:FuncId}(hlo:LoF P f (insL fr))
  (hrot:∀(H:Heap) (b o n lb r:Nat) (ex:Bool) (l:List Pr),H[b]? =some (.row (fl l) false)->one2 l->1<=r->r<n->n<=lb->o+n<=l.length->n<=1000000->O fr [.slice b (2*o) n lb ex 2,.int .i64 (r:Nat)] H=some (.tuple [],H.set b (.row (fl (rot l o n (n - r))) false)))
  {H:Heap} {b n lb i vb vo vl vs:Nat} {ex vx:Bool} {l:List Pr} {e:Pr} {cs:List IV} (hb:H[b]? =some (.row cs false)) (hcs:cs.take (2*n)=fl l) (hl:l.length=n) (hn0:0<n) (hin:i<=n) (h1:one2 l) (he:e.1.one=true/\e.2.one=true) (hvb:vb≠b) (hv:lsl H 2 (.slice vb vo 1 vl vx vs) 1=some [e.1,e.2]) (hvr:rowThere H[vb]? =true) (hn9:n<1000000) :
  SimCall P f [.slice b 0 n lb ex 2,.int .i64 (i:Nat),.slice vb vo 1 vl vx vs] H (.slice H.length 0 (n+1) (n+1) false 2) (H.set b .dead++[.row (fl (ins l i e)) false]):=by
 intro B0 w0 w m us hR hA;obtain⟨⟨fn,q1,q2⟩,_⟩:=hlo;have hR1:=hR.shrink hb (2*n);rw[hcs]at hR1;have hlt:=(ges hb).1;have hb1:(H.set b (.row (fl l) false))[b]? =some (.row (fl l) false):=setAt hb;have hlen:(H.set b (IObj.row (fl l) false)).length=H.length:=List.length_set;have hdead:(H.set b (IObj.row (fl l) false)).set b .dead=H.set b .dead:=List.set_set ..;have hvb1:(H.set b (IObj.row (fl l) false))[vb]? =H[vb]? :=List.getElem?_set_ne (Ne.symm hvb);have sim:∀{v0:IV} {K:IV->Heap->Prop},lrunW (callable P) O 0 (insL fr) [v0,.int .i64 (i:Nat),.slice vb vo 1 vl vx vs] (H.set b (.row (fl l) false)) K->SimW P f [v0,.int .i64 (i:Nat),.slice vb vo 1 vl vx vs] (H.set b (.row (fl l) false)) K :=
  fun h=>sim_W hφ (fun _ h=>h) hm q1 q2 (nble rfl) h
 have hA':=hA;simp only[VRs]at hA';obtain⟨v,vs',hus,hv0,hrest⟩:=hA';have hv0':=hv0;simp only[VR]at hv0;obtain⟨ll,o',c,sp,hll,rfl,k1,k2,k3,k4,k5⟩:=hv0;have withV:∀{x:IV},VR m x (.slice (some ⟨ll.cb,o',sp⟩) n c)->VRs m [x,.int .i64 (i:Nat),.slice vb vo 1 vl vx vs] us.toList:=by
  intro x hx;rw[hus];simp only[VRs];exact⟨_,_,rfl,hx,hrest⟩
 by_cases hi:i=n
 ·
  subst hi;have hW:=sim (ins_ret_w (v0:=.slice b 0 i i false 2) (hA:=fun v8 v68=>⟨_,ins_end (cal:=callable P) (O:=O) (N:=0) (fr:=fr) (v8:=v8) (v68:=v68) hb1 hl hn0 h1 he (oneAt_of hvb1 hv) (by omega)⟩));refine(hW B0 w0 w m us hR1 (withV (by simp only[VR];exact⟨ll,o',c,sp,hll,rfl,Nat.le_refl _,by omega,fun h=>(by cases h),fun _=>k4 (by omega),k5⟩))).mono ?_;rintro en w' ⟨r,H',m',u,⟨rfl,rfl⟩,rfl,hext,hR',hu⟩;rw[hlen]at hu;rw[hdead]at hR';exact⟨m',u,rfl,hext,hR',hu⟩
 ·have hex:VR m (.slice b 0 n c true 2) (.slice (some ⟨ll.cb,o',sp⟩) n c):=by
   simp only[VR];exact⟨ll,o',c,sp,hll,rfl,by omega,Nat.le_refl _,fun _=>rfl,fun _=>k4 (by omega),k5⟩
  by_cases hc:n<c
  ·
   have hW:=sim (ins_room_w (cal:=callable P) (O:=O) (N:=0) hrot (c:=c) hb1 hl (by omega) hc h1 he (fun cs'=>oneAt_of (by rw[List.set_set];exact List.getElem?_set_ne (Ne.symm hvb)) hv) (by rw[hvb1];exact hvr) hn9);refine(hW B0 w0 w m us hR1 (withV hex)).mono ?_;rintro en w' ⟨r,H',m',u,⟨rfl,rfl⟩,rfl,hext,hR',hu⟩;rw[List.set_set]at hR';have hll':=hext _ _ hll;have hb2:(H.set b (IObj.row (fl (ins l i e)) false))[b]? =some (.row (fl (ins l i e)) false):=setAt hb;have hR2:=hR'.anew hb2 hll';rw[List.set_set,List.length_set]at hR2;simp only[VR]at hu;obtain⟨l2,o2,c2,sp2,t1,rfl,t2,t3,t4,t5,t6⟩:=hu;rw[hll']at t1;cases t1
   have hdm:=grow_ext hR' ll;rw[List.length_set]at hdm;refine⟨_,_,rfl,hext.trans hdm,hR2,?_⟩;simp only[VR];exact⟨ll,o2,c2,sp2,grow_at _ _ _,rfl,Nat.le_refl _,by omega,fun h=>(by cases h),fun _=>t5 (by omega),t6⟩
  ·
   have hcn:c=n:=by omega
   subst hcn;have hW:=sim (ins_ret_w (v0:=.slice b 0 c c true 2) (hA:=fun v8 v68=>⟨_,ins_grow (cal:=callable P) (O:=O) (N:=0) (fr:=fr) (v8:=v8) (v68:=v68) hb1 hl (by omega) h1 he (fun r=>oneAt_of (by rw[List.getElem?_append_left (by rw[hlen];cases hq:H[vb]? with | none=>rw[hq]at hvr;cases hvr | some o=>exact(ges hq).1)];exact hvb1) hv) (by omega)⟩));refine(hW B0 w0 w m us hR1 (withV hex)).mono ?_;rintro en w' ⟨r,H',m',u,⟨rfl,rfl⟩,rfl,hext,hR',hu⟩;have hk:=hR'.kill b;rw[List.set_append_left _ _ (by rw[hlen];exact hlt),hdead]at hk;rw[hlen]at hu;exact⟨m',u,rfl,hext,hk,hu⟩
end Go.Shade
namespace Go.Shade
open Go.RowKit
def unfl :List IV->Option (List Pr)
 | []=>some []
 | x::y::l=>if x.one&&y.one then(unfl l).map fun k=>(x,y)::k else none
 | [_]=>none
theorem unfl_eq :∀{cs:List IV} {l:List Pr},unfl cs=some l->cs=fl l/\one2 l
 | [],l,h=>by cases h;exact⟨rfl,fun p hp=>by cases hp⟩
 | [x],l,h=>by cases h
 | x::y::cs,l,h=>by
  simp only[unfl]at h;split at h
  ·rename_i ho;simp only[Bool.and_eq_true]at ho;obtain⟨k,hk,rfl⟩:=Option.map_eq_some_iff.1 h;obtain⟨h1,h2⟩:=unfl_eq hk;refine⟨by rw[h1];rfl,fun p hp=> ?_⟩;rcases List.mem_cons.1 hp with rfl | hp
   ·exact ho
   ·exact h2 p hp
  ·cases h
def insT (args:List IV)(H:Heap):Option (IV×Heap) :=
 match args with
 | [.slice b 0 n lb ex 2,.int .i64 i,.slice vb vo 1 vl vx vs]=>match H[b]? with
  | some (.row cs false)=>match unfl (cs.take (2*n)),lsl H 2 (.slice vb vo 1 vl vx vs) 1 with
   | some l,some [e1,e2] =>
    if Nat.beq l.length n&&(Nat.blt 0 n&&(decide (0<=i)&&(Nat.ble i.toNat n&&(e1.one&&(e2.one&&(!Nat.beq vb b&&(rowThere H[vb]? &&Nat.blt n 1000000)))))))then
     some (.slice H.length 0 (n+1) (n+1) false 2,H.set b .dead++[.row (fl (ins l i.toNat (e1,e2))) false])
    else if Nat.beq n 0&&(decide (i=0)&&(Nat.blt 0 lb&&(Nat.ble 2 cs.length&&(e1.one&&e2.one))))then some (.slice b 0 1 lb ex 2,H.set b (.row (putAt cs 0 [e1,e2]) false))
    else none
   | _,_=>none
  | _=>none
 | [.nilSlice,.int .i64 0,.slice vb vo 1 vl vx vs]=>match lsl H 2 (.slice vb vo 1 vl vx vs) 1 with
  | some [e1,e2]=>if e1.one&&e2.one then some (.slice H.length 0 1 1 false 2,H++[.row [e1,e2] false])else none
  | _=>none
 | _=>none
theorem ins_zero {cal:FuncId->Bool}{O:Oracle}{N:Nat}{fr:FuncId}{H:Heap}{b lb:Nat}{ex:Bool}{cs:List IV}{v:IV}{e:Pr}{v8 v68:IV}(hb:H[b]? =some (.row cs false))(hlb:0<lb)(hcs:2<=cs.length)(he:e.1.one=true/\e.2.one=true)(hv:OneAt H v e) :
  sInsXC0S cal O N fr gIns (.slice b 0 0 lb ex 2) (.int .i64 0) v v8 v68 H=some (.tuple [.slice b 0 1 lb ex 2,.slice b 0 0 lb ex 2,.int .i64 0,v,.int .i64 1,.int .i64 0],H.set b (.row (putAt cs 0 [e.1,e.2]) false)):=by
 unfold sInsXC0S;have s1:lslice H (.slice 2) (.slice b 0 0 lb ex 2) (some (.int .i64 0)) none none=some (.slice b 0 0 lb ex 2):=by
  simp[lslice,bnd]
 have s2:llen H .slice (.slice b 0 0 lb ex 2)=some (.int .i64 0):=rfl;rw[s1,ob_some,hv.1,ob_some,lbin_eql,ob_some,decide_eq_false (by omega),cnd_false,s2,ob_some,lbin_eql,ob_some,decide_eq_true rfl,cnd_true];have happ:lapp H 2 24 (.slice b 0 0 lb ex 2) v=some (.slice b 0 1 lb ex 2,H.set b (.row (putAt cs 0 [e.1,e.2]) false)):=by
  unfold lapp lappend;simp only[hv.2.1,Option.bind_some];rw[if_neg (by omega),hv.2.2];simp only[Option.bind_some];rw[if_pos ⟨rfl,by simp[he.1,he.2]⟩];simp only[hb];rw[if_pos (by omega),if_pos (by simpa using hcs)]
 rw[happ,ob_some]
theorem sound_insT {P:Program}{O:Oracle}(hφ:Sound P O)(hm:P.follows .mixedOrders=true){f fr:FuncId}(hlo:LoF P f (insL fr))
  (hrot:∀(H:Heap) (b o n lb r:Nat) (ex:Bool) (l:List Pr),H[b]? =some (.row (fl l) false)->one2 l->1<=r->r<n->n<=lb->o+n<=l.length->n<=1000000->O fr [.slice b (2*o) n lb ex 2,.int .i64 (r:Nat)] H=some (.tuple [],H.set b (.row (fl (rot l o n (n - r))) false)))
  (args:List IV) (H:Heap) (r:IV) (H':Heap) (e:insT args H=some (r,H')):SimCall P f args H r H':=by
 unfold insT at e;split at e
 ·rename_i b n lb ex i vb vo vl vx vs;split at e
  ·rename_i cs hb;split at e
   ·rename_i l e1 e2 hl hv;split at e
    ·rename_i hc;simp only[Bool.and_eq_true,Bool.not_eq_true',decide_eq_true_eq]at hc;obtain⟨c1,c2,c3,c4,c5,c6,c7,c8,c9⟩:=hc
     cases e
     obtain⟨u1,u2⟩:=unfl_eq hl;have c2:1<=n:=by simpa[Nat.blt]using c2
     have c9:n<1000000:=by simpa[Nat.blt_eq]using c9
     have:=sim_insert hφ hm hlo hrot (i:=i.toNat) (lb:=lb) (ex:=ex) (e:=(e1,e2)) hb u1 (Nat.eq_of_beq_eq_true c1) c2 (nble c4) u2 ⟨c5,c6⟩ (fun h=>by rw[h,Nat.beq_refl]at c7;cases c7) hv c8 c9;rw[show((i.toNat:Nat):Int)=i by omega]at this;exact this
    ·split at e
     ·rename_i hc;simp only[Bool.and_eq_true,decide_eq_true_eq]at hc;obtain⟨c1,c2,c3,c4,c5,c6⟩:=hc
      cases e
      have c1:=Nat.eq_of_beq_eq_true c1;have c3:1<=lb:=by simpa[Nat.blt]using c3
      subst c1 c2;obtain⟨⟨fn,q1,q2⟩,_⟩:=hlo;have hW:=sim_W hφ (fun _ h=>h) hm q1 q2 (nble rfl) (ins_ret_w (cal:=callable P) (N:=0) (H:=H) (hA:=fun v8 v68=>⟨_,ins_zero (cal:=callable P) (O:=O) (N:=0) (fr:=fr) (v8:=v8) (v68:=v68) (ex:=ex) (e:=(e1,e2)) hb (show 0<lb from c3) (nble c4) ⟨c5,c6⟩ (oneAt_of rfl hv)⟩));intro B0 w0 w m us hR hA;refine(hW B0 w0 w m us hR hA).mono ?_;rintro en w' ⟨r,H',m',u,⟨rfl,rfl⟩,rfl,hext,hR',hu⟩;exact⟨m',u,rfl,hext,hR',hu⟩
     ·cases e
   ·cases e
  ·cases e
 ·rename_i vb vo vl vx vs;split at e
  ·rename_i e1 e2 hv;split at e
   ·rename_i hc;simp only[Bool.and_eq_true]at hc
    cases e
    obtain⟨⟨fn,q1,q2⟩,_⟩:=hlo;have hW:=sim_W hφ (fun _ h=>h) hm q1 q2 (nble rfl) (ins_ret_w (cal:=callable P) (N:=0) (H:=H) (hA:=fun v8 v68=>⟨_,ins_nil (cal:=callable P) (O:=O) (N:=0) (fr:=fr) (v8:=v8) (v68:=v68) (e:=(e1,e2)) hc (oneAt_of rfl hv)⟩));intro B0 w0 w m us hR hA;refine(hW B0 w0 w m us hR hA).mono ?_;rintro en w' ⟨r,H',m',u,⟨rfl,rfl⟩,rfl,hext,hR',hu⟩;exact⟨m',u,rfl,hext,hR',hu⟩
   ·cases e
  ·cases e
 ·cases e
def kcallT (P:Program)(T:Table)(N:Nat):Nat->Oracle
 | 0=>fun _ _ _=>none
 | n+1=>fun f args H=>match T f with
  | some g=>g args H
  | none=>match P.funcs[f]? with
   | none=>none
   | some fn=>match lowF P fn with
    | none=>none
    | some lf=>if Nat.ble args.length lf.n then
      match lrunO (callable P) (kcallT P T N n) N lf args H with
      | none=>none
      | some L=>wpick H.length L
     else none
theorem sound_kcallT {P:Program}{T:Table}(hT:SoundT P T)(hm:P.follows .mixedOrders=true)(N:Nat):∀n,Sound P (kcallT P T N n)
 | 0=>fun f args H r H' e=>by cases e
 | n+1=>fun f args H r H' e=>by
  simp only[kcallT]at e;split at e
  ·rename_i g hg;exact hT f g hg args H r H' e
  ·split at e
   ·cases e
   ·rename_i fn hf;split at e
    ·cases e
    ·rename_i lf hl;split at e
     ·rename_i hlen;split at e
      ·cases e
      ·rename_i L hL;exact sim_pick (sim_W (sound_kcallT hT hm N n) (fun _ h=>h) hm hf hl (nble hlen) (lrunO_W hL)) e
     ·cases e
theorem sim_awakeT {P:Program}{T:Table}(hT:SoundT P T)(hm:P.follows .mixedOrders=true){N n:Nat}{f:FuncId}(h:isT (kcallT P T N n f [] [])=true)(H:Heap):SimCall P f [] H (.bool true) H:=by
 unfold isT at h;split at h
 ·rename_i H' e;exact sim_closed (sound_kcallT hT hm N n f [] [] _ _ e) rfl rfl H
 ·cases h
end Go.Shade
namespace Go.Shade
abbrev Nam :=List UInt8
abbrev cmpB :=Go.Lib.compareBytes
theorem cmpB_self :∀a:Nam,cmpB a a=0
 | []=>rfl
 | x::a=>by
  have:¬x<x:=by simp[UInt8.lt_iff_toNat_lt]
  simp only[cmpB,Go.Lib.compareBytes,this,if_false];exact cmpB_self a
abbrev Dr :=List (Nam×Int)
def SrtD :Dr->Prop
 | []=>True
 | e::l=>(∀f∈l,cmpB e.1 f.1<0)/\SrtD l
def lookD (s:Nam):Dr->Option Int
 | []=>none
 | e::l=>if e.1=s then some e.2 else lookD s l
def delD (s:Nam):Dr->Dr
 | []=>[]
 | e::l=>if e.1=s then l else e::delD s l
theorem SrtD.mk :∀{a b:Dr},SrtD a->SrtD b->(∀e∈a,∀f∈b,cmpB e.1 f.1<0)->SrtD (a++b)
 | [],b,_,h,_=>h
 | x::a,b,h,k,hx=>⟨fun f hf=>by
   rcases List.mem_append.1 hf with hf | hf
   ·exact h.1 f hf
   ·exact hx x (by simp) f hf,SrtD.mk h.2 k fun e he=>hx e (List.mem_cons_of_mem _ he)⟩
theorem ltne {a b:Nam}(h:cmpB a b<0):a≠b:=fun e=>by subst e;rw[cmpB_self]at h;omega
theorem lookD_app {s:Nam}:∀{a b:Dr},(∀e∈a,cmpB e.1 s<0)->lookD s (a++b)=lookD s b
 | [],b,_=>rfl
 | x::a,b,h=>by
  show(if x.1=s then _ else _)=_;rw[if_neg (ltne (h x (by simp)))];exact lookD_app fun e he=>h e (List.mem_cons_of_mem _ he)
theorem lookD_gt {s:Nam}:∀{b:Dr},(∀e∈b,0<cmpB e.1 s)->lookD s b=none
 | [],_=>rfl
 | x::b,h=>by
  show(if x.1=s then _ else _)=_;rw[if_neg (fun e=>by have:=h x (by simp);rw[e,cmpB_self]at this;omega)];exact lookD_gt fun e he=>h e (List.mem_cons_of_mem _ he)
theorem lookD_at {s:Nam}{w:Int}{b:Dr}:lookD s ((s,w)::b)=some w:=if_pos rfl
structure PosD (s:Nam)(l:Dr)(i:Nat)(found:Bool):Prop where
 le:i<=l.length
 lo:∀e∈l.take i,cmpB e.1 s<0
 hi:if found=true then ∃v,l.drop i=(s,v)::l.drop (i+1)else ∀e∈l.drop i,0<cmpB e.1 s
theorem PosD.split {s:Nam}{l:Dr}{i:Nat}{f:Bool}(h:PosD s l i f):l=l.take i++l.drop i:=(List.take_append_drop i l).symm
theorem PosD.look {s:Nam}{l:Dr}{i:Nat}{f:Bool}(h:PosD s l i f):lookD s l=if f=true then(l[i]?).map (·.2)else none:=by
 rw[h.split,lookD_app h.lo];have:=h.hi
 cases f with
 | true =>
  rw[if_pos rfl]at this ⊢;obtain⟨v,e⟩:=this;rw[←h.split];have h2:l[i]? =some (s,v):=by
   have:=congrArg (fun k=>k[0]?) e
   simpa using this
  rw[e,lookD_at,h2];rfl
 | false =>
  rw[if_neg (by simp)]at this;rw[lookD_gt this];rfl
theorem delD_srt {s:Nam}:∀{l:Dr},SrtD l->SrtD (delD s l)
 | [],_=>trivial
 | x::l,h=>by
  show SrtD (if x.1=s then _ else _);split
  ·exact h.2
  ·refine⟨fun f hf=> ?_,delD_srt h.2⟩;have:∀{l:Dr} {f},f∈delD s l->f∈l:=by
    intro l
    induction l with
    | nil=>intro f hf;exact hf
    | cons y l ih =>
     intro f hf;unfold delD at hf;split at hf
     ·exact List.mem_cons_of_mem _ hf
     ·rcases List.mem_cons.1 hf with rfl | hf
      ·simp
      ·exact List.mem_cons_of_mem _ (ih hf)
   exact h.1 f (this hf)
end Go.Shade
namespace Go.Shade
variable {l : Dr}
def prs (l:Dr):List Pr:=l.map fun e=>(.str e.1,.int .i64 e.2)
theorem prs_length (l:Dr):(prs l).length=l.length:=by simp[prs]
theorem prs_get {i:Nat}{e:Nam×Int}(h:l[i]? =some e):(prs l)[i]? =some (.str e.1,.int .i64 e.2):=by simp[prs,h]
theorem fl_get1 {l:List Pr}{j:Nat}{p:Pr}(h:l[j]? =some p):(fl l)[2*j+1]? =some p.2:=by
 have:=fl_ld h;have h2:(((fl l).drop (2*j)).take 2)[1]? =some p.2:=by rw[this];rfl
 rw[List.getElem?_take,if_pos (by omega),List.getElem?_drop]at h2;exact h2
def DSl (P:Nat->Prop)(H:Heap)(sv:IV)(l:Dr):Prop :=
 (sv=.nilSlice/\l=[])∨∃r rest ex,sv=.slice r 0 l.length (l.length+rest.length) ex 2/\P r/\one2 rest/\0<l.length+rest.length/\H[r]? =some (.row (fl (prs l++rest)) false)
theorem DSl.frame {P F:Nat->Prop}{H H':Heap}{sv:IV}(h:DSl P H sv l)(k:Frame F H H')(hf:∀i,P i->¬F i):DSl P H' sv l:=by
 rcases h with h | ⟨r,rest,ex,h1,h2,h3,h4,h5⟩
 ·exact .inl h
 ·exact .inr ⟨r,rest,ex,h1,h2,h3,h4,k.get (hf r h2) h5⟩
theorem DSl.ix {P:Nat->Prop}{H:Heap}{sv:IV}(h:DSl P H sv l){i:Nat}{e:Nam×Int}(hi:l[i]? =some e):∃r rest ex,sv=.slice r 0 l.length (l.length+rest.length) ex 2/\P r/\one2 rest/\H[r]? =some (.row (fl (prs l++rest)) false)/\lix 2 sv (.int .i64 (i:Nat))=some (.ptr r (2*i))/\lloadn H 2 (.ptr r (2*i))=some (.agg [.str e.1,.int .i64 e.2])/\lload1 H (.ptr r (2*i+1))=some (.int .i64 e.2):=by
 have hlt:=(ges hi).1;rcases h with⟨rfl,rfl⟩ | ⟨r,rest,ex,rfl,h2,h3,h4,h5⟩
 ·simp at hlt
 ·have hg:(prs l++rest)[i]? =some (.str e.1,.int .i64 e.2):=by rw[List.getElem?_append_left (by rw[prs_length];exact hlt)];exact prs_get hi
  exact⟨r,rest,ex,rfl,h2,h3,h5,by rw[lix_slice,if_pos (by omega)];simp;omega,ld2 h5 hg,by rw[ld1 h5];exact fl_get1 hg⟩
structure DirOk (P:Nat->Prop)(H:Heap)(d:Nat)(l:Dr):Prop where
 own:P d
 lt:∀i,P i->i<H.length
 row:∃sv,H[d]? =some (.row [sv] false)/\DSl (fun i=>P i/\i≠d) H sv l
 srt:SrtD l
theorem DirOk.frame {P F:Nat->Prop}{H H':Heap}{d:Nat}{l:Dr}(h:DirOk P H d l)(e:Frame F H H')(hf:∀i,P i->¬F i):DirOk P H' d l:=by
 obtain⟨sv,h3,h4⟩:=h.row;exact⟨h.own,fun i hi=>Nat.lt_of_lt_of_le (h.lt i hi) e.1,⟨sv,e.get (hf d h.own) h3,h4.frame e fun i hi=>hf i hi.1⟩,h.srt⟩
section
variable {cal : FuncId -> Bool} {O : Oracle} {N : Nat}
end
end Go.Shade
namespace Go.Shade
section
variable {cal : FuncId -> Bool} {O : Oracle} {N : Nat}
end
end Go.Shade
namespace Go.Shade
section
variable {cal : FuncId -> Bool} {O : Oracle} {N : Nat}
end
end Go.Shade
namespace Go.Shade
end Go.Shade
namespace Go.Shade
structure ChOk (es:List Ent)(c:Nat):Prop where
 key:∀e∈es,∃k:Int,e.1=.int .i64 k/\0<=k/\k<=65536
 val:∀e∈es,∃cs,e.2.1=.agg cs/\cs.length=16/\cs.all IV.one=true
 id:∀e∈es,e.2.2<c
 nodup:(es.map (·.1)).Nodup
 idup:(es.map (·.2.2)).Nodup
theorem ChOk.keyI {es:List Ent}{c:Nat}(h:ChOk es c):∀e∈es,∃k:Int,e.1=.int .i64 k:=fun e he=>by obtain⟨k,h,_⟩:=h.key e he;exact⟨k,h⟩
def SOk (H:Heap)(s:Nat):Prop:=∃room used:Int,IntKind.wrap .i64 used=used/\H[s]? =some (.row [.int .i64 room,.int .i64 used] false)
def BodyOk (P:Nat->Prop)(H:Heap)(p:Nat):Prop:=P p/\(∀i,P i->i<H.length)/\∃(sz:Int) (m:Nat) (es:List Ent) (c:Nat),H[p]? =some (.row [.int .i64 sz,.map m] false)/\P m/\m≠p/\H[m]? =some (.map es c)/\ChOk es c
theorem SOk.frame {F:Nat->Prop}{H H':Heap}{s:Nat}(h:SOk H s)(k:Frame F H H')(hs:¬F s):SOk H' s:=by
 obtain⟨a,b,c,h⟩:=h;exact⟨a,b,c,k.get hs h⟩
theorem BodyOk.frame {P F:Nat->Prop}{H H':Heap}{p:Nat}(h:BodyOk P H p)(k:Frame F H H')(hf:∀i,P i->¬F i):BodyOk P H' p:=by
 obtain⟨h1,h2,sz,m,es,c,h3,h4,h5,h6,h7⟩:=h;exact⟨h1,fun i hi=>Nat.lt_of_lt_of_le (h2 i hi) k.1,sz,m,es,c,k.get (hf p h1) h3,h4,h5,k.get (hf m h4) h6,h7⟩
theorem ifind_int :∀{es:List Ent} (x:Int) (i:Nat),(∀e∈es,∃k:Int,e.1=.int .i64 k)->(ifind (.int .i64 x) es i=some none/\∀e∈es,e.1≠ .int .i64 x)∨∃j e,es[j]? =some e/\e.1=.int .i64 x/\ifind (.int .i64 x) es i=some (some (i+j,e.2.1))
 | [],x,i,_=>.inl ⟨rfl,fun _ h=>by cases h⟩
 | (k,v,d)::es,x,i,h=>by
  obtain⟨k',hk⟩:=h (k,v,d) (by simp);simp only at hk;subst hk;simp only[ifind,cellEq,if_true];by_cases e:x=k'
  ·subst e;exact .inr ⟨0,_,rfl,rfl,by simp⟩
  ·have hb:(x==k')=false:=by simp only[beq_eq_false_iff_ne,ne_eq];exact e
   rw[hb];rcases ifind_int x (i+1) (fun e he=>h e (List.mem_cons_of_mem _ he))with⟨h1,h2⟩ | ⟨j,q,h1,h2,h3⟩
   ·refine .inl ⟨h1,fun q hq=> ?_⟩;rcases List.mem_cons.1 hq with rfl | hq
    ·simp only[ne_eq,IV.int.injEq,true_and];exact fun h=>e h.symm
    ·exact h2 q hq
   ·exact .inr ⟨j+1,q,by simpa using h1,h2,by rw[h3,show i+1+j=i+(j+1) by omega]⟩
theorem ChOk.add {es:List Ent}{c:Nat}{k:Int}{cs:List IV}(h:ChOk es c)(hk:0<=k/\k<=65536)(hn:∀e∈es,e.1≠ .int .i64 k)(hl:cs.length=16)(h1:cs.all IV.one=true):ChOk (es++[(.int .i64 k,.agg cs,c)]) (c+1):=by
 refine⟨fun q hq=> ?_,fun q hq=> ?_,fun q hq=> ?_,?_,?_⟩
 ·rcases List.mem_append.1 hq with h' | h'
  ·exact h.key q h'
  ·rw[List.mem_singleton]at h';subst h';exact⟨k,rfl,hk⟩
 ·rcases List.mem_append.1 hq with h' | h'
  ·exact h.val q h'
  ·rw[List.mem_singleton]at h';subst h';exact⟨cs,rfl,hl,h1⟩
 ·rcases List.mem_append.1 hq with h' | h'
  ·have:=h.id q h';omega
  ·rw[List.mem_singleton]at h';subst h';simp
 ·rw[List.map_append];refine List.nodup_append.2 ⟨h.nodup,by simp,fun a ha b hb=> ?_⟩;simp at hb;subst hb;obtain⟨e,he,rfl⟩:=List.mem_map.1 ha;exact hn e he
 ·rw[List.map_append];refine List.nodup_append.2 ⟨h.idup,by simp,fun a ha b hb=> ?_⟩;simp at hb;subst hb;obtain⟨e,he,rfl⟩:=List.mem_map.1 ha;have:=h.id e he;omega
section
variable {cal : FuncId -> Bool} {O : Oracle} {N : Nat}
end
end Go.Shade
namespace Go.Shade
open Go.RowKit
def nodN :List Nat->Bool
 | []=>true
 | i::l=>(l.all fun j=> !Nat.beq i j)&&nodN l
def gcRows (n:Nat)(f:Nat->Nat)(H1:Heap):Heap->List Nat->Bool
 | [],[]=>true
 | o::K,i::fl=>inBO n o&&((match H1[i]? with | some p=>iob (renO f o) p | none=>false)&&gcRows n f H1 K fl)
 | _,_=>false
def idN :Nat->Nat->List Nat->Bool
 | 0,_,_=>true
 | n+1,i,j::l=>Nat.beq i j&&idN n (i+1) l
 | _+1,_,[]=>false
def gcF (fl:List Nat)(i:Nat):Nat:=fl.getD i 0
def gcOk (H H1 K:Heap)(fl:List Nat)(r r':IV):Bool :=
 Nat.ble H.length K.length&&(idN H.length 0 fl&&(nodN fl&&(gcRows K.length (gcF fl) H1 K fl&&(ivb (ren (gcF fl) r') r&&inB K.length r'))))
def stage (o:Option (IV×Heap))(H K:Heap)(fl:List Nat)(r':IV):Bool:=match o with
 | some (r,H1)=>gcOk H H1 K fl r r'
 | none=>false
def atT (A:List IV)(H0:Heap)(R:IV)(K:Heap)(args:List IV)(H:Heap):Option (IV×Heap):=if ivbs args A&&hpb H H0 then some (R,K)else none
end Go.Shade
namespace Go.Shade
section
variable {cal : FuncId -> Bool} {O : Oracle} {N : Nat}
def keysI :List Ent->Bool
 | []=>true
 | (.int .i64 k,_,_)::es=>decide (0<=k/\k<=65536)&&keysI es
 | _=>false
def intIn (k:Int):List Ent->Bool
 | []=>false
 | (.int .i64 j,_,_)::es=>decide (j=k)||intIn k es
 | _::es=>intIn k es
def keysD :List Ent->Bool
 | []=>true
 | (.int .i64 k,_,_)::es=> !intIn k es&&keysD es
 | _=>false
def cutT (args:List IV)(H:Heap):Option (IV×Heap):=match args with
 | [.ptr s 0,.ptr p 0,.int .i64 0]=>match H[s]?,H[p]? with
  | some (.row [.int .i64 room,.int .i64 used] false),some (.row [.int .i64 sz,.map m] false)=>match H[m]? with
   | some (.map es c)=>if decide (IntKind.wrap .i64 used=used)&&(keysI es&&(keysD es&&(es.all (fun e=>Nat.blt e.2.2 c)&&(es.all (fun e=>match e.2.1 with | .agg cs=>Nat.beq cs.length 16&&cs.all IV.one | _=>false)&&(nodN (es.map (·.2.2))&&(!Nat.beq s p&&(!Nat.beq m s&& !Nat.beq m p)))))))then
     some (.int .i64 0,((H.set s (.row [.int .i64 room,.int .i64 (IntKind.wrap .i64 (used - es.length))] false)).set m (.map [] c)).set p (.row [.int .i64 0,.map m] false))
    else none
   | _=>none
  | _,_=>none
 | _=>none
end
end Go.Shade
namespace Go.Shade
structure Nod where
 p:Nat
 q:Nat
 kind:Int
 links:Int
 holds:Int
 marks:Int
 parent:Int
 body:Bool
 dir:Option Dr
 target:Nam
def Nod.c (x:Nod):List IV:=[.int .i64 x.kind,.int .i64 x.links,.int .i64 x.holds,.int .i64 x.marks,.int .i64 x.parent,(if x.body=true then .ptr x.q 0 else .nilPtr),(if x.dir.isSome=true then .ptr x.q 0 else .nilPtr),.str x.target]
theorem Nod.c_length (x:Nod):x.c.length=8:=rfl
theorem Nod.c_one (x:Nod):x.c.all IV.one=true:=by
 unfold Nod.c
 cases x.body<;>cases x.dir<;>rfl
structure NodOk (P:Nat->Prop)(H:Heap)(x:Nod):Prop where
 own:P x.p
 lt:∀j,P j->j<H.length
 row:H[x.p]? =some (.row x.c false)
 bod:x.body=true->BodyOk (fun j=>P j/\j≠x.p) H x.q
 dir:∀l,x.dir=some l->DirOk (fun j=>P j/\j≠x.p) H x.q l
 one:x.body=true->x.dir=none
theorem NodOk.frame {P F:Nat->Prop}{H H':Heap}{x:Nod}(h:NodOk P H x)(k:Frame F H H')(hf:∀j,P j->¬F j):NodOk P H' x :=
 ⟨h.own,fun j hj=>Nat.lt_of_lt_of_le (h.lt j hj) k.1,k.get (hf _ h.own) h.row,fun e=>(h.bod e).frame k fun j hj=>hf j hj.1,fun l e=>(h.dir l e).frame k fun j hj=>hf j hj.1,h.one⟩
structure Brs where
 s:Nat
 q:Nat
 k:Int
 free:List It
 nod:Nat->Option Nod
def Brs.cell (st:Brs)(i:Nat):IV:=match st.nod i with
 | none=>.nilPtr
 | some x=>.ptr x.p 0
def Brs.cells (st:Brs):List IV:=(List.range 201).map st.cell
structure BrOk (own:Nat->Nat)(H:Heap)(b:Nat)(st:Brs):Prop where
 ob:own b=203
 os:own st.s=201
 row:H[b]? =some (.row (brC (.ptr st.s 0) st.cells (.ptr st.q 0)) false)
 sto:SOk H st.s
 que:QOk (fun j=>own j=202) H st.q st.free st.k
 nod:∀i x,st.nod i=some x->1<=i/\i<=200/\NodOk (fun j=>own j=i) H x
 lt:∀j,own j≠0->j<H.length
theorem BrOk.frame {own:Nat->Nat}{H H':Heap}{b:Nat}{st:Brs}(h:BrOk own H b st){F:Nat->Prop}(k:Frame F H H')(hf:∀j,own j≠0->¬F j):BrOk own H' b st :=
 ⟨h.ob,h.os,k.get (hf b (by rw[h.ob];decide)) h.row,h.sto.frame k (hf _ (by rw[h.os];decide)),h.que.frame k fun j hj=>hf j (by rw[hj];decide),fun i x hx=>by
  obtain⟨a,b,c⟩:=h.nod i x hx;exact⟨a,b,c.frame k fun j hj=>hf j (by rw[hj];omega)⟩,fun j hj=>Nat.lt_of_lt_of_le (h.lt j hj) k.1⟩
theorem BrOk.kp {own:Nat->Nat}{H H':Heap}{b:Nat}{st:Brs}(h:BrOk own H b st)(k:Frame NoF H H'):BrOk own H' b st:=h.frame k fun _ _ h=>h
section
variable {own : Nat -> Nat} {H H' : Heap} {b i : Nat} {st : Brs} {x x' : Nod} {P' : Nat -> Prop}
end
end Go.Shade
namespace Go.Shade
structure KInv (st:Brs):Prop where
 dir:∀i x,st.nod i=some x->(x.kind=2↔x.dir.isSome=true)
 body:∀i x,st.nod i=some x->(x.kind=1↔x.body=true)
 kind:∀i x,st.nod i=some x->1<=x.kind/\x.kind<=4
def LenInv (c:Nat)(st:Brs):Prop:=∀i x l,st.nod i=some x->x.dir=some l->l.length<=c
section
variable {cal : FuncId -> Bool} {O : Oracle} {N : Nat}
end
end Go.Shade
namespace Go.Shade
section
variable {own : Nat -> Nat} {H H' : Heap} {b i : Nat} {st : Brs} {x x' : Nod} {P' : Nat -> Prop}
end
structure Aft (own:Nat->Nat)(H:Heap)(b:Nat)(r:Out)(own':Nat->Nat)(st':Brs):Prop where
 ok:BrOk own' r.2 b st'
 fr:Frame (fun j=>own j≠0) H r.2
 up:∀j,own' j≠0->own j≠0∨H.length<=j
theorem Aft.none {own:Nat->Nat}{H:Heap}{b:Nat}{st:Brs}{r:Out}(h:BrOk own H b st)(k:Frame NoF H r.2):Aft own H b r own st:=⟨h.kp k,k.no,fun j hj=>.inl hj⟩
section
variable {cal : FuncId -> Bool} {O : Oracle} {N : Nat}
end
end Go.Shade
namespace Go.Shade
theorem Aft.val {own own':Nat->Nat}{H:Heap}{b:Nat}{r:Out}{st':Brs}(h:Aft own H b r own' st')(v:IV):Aft own H b (v,r.2) own' st':=⟨h.ok,h.fr,h.up⟩
section
variable {cal : FuncId -> Bool} {O : Oracle} {N : Nat}
end
end Go.Shade
namespace Go.Shade
section
variable {cal : FuncId -> Bool} {O : Oracle} {N : Nat}
end
end Go.Shade
namespace Go.Shade
def RankInv (st:Brs)(rk:Nat->Nat):Prop:=∀i x,st.nod i=some x->x.kind=2->i≠1->∃p:Nat,x.parent=(p:Nat)/\rk p<rk i/\p<=200/\∃y,st.nod p=some y/\y.kind=2
section
variable {cal : FuncId -> Bool} {O : Oracle} {N : Nat}
end
end Go.Shade
namespace Go.Shade
section
variable {cal : FuncId -> Bool} {O : Oracle} {N : Nat}
end
end Go.Shade
namespace Go.Shade
def cntD (l:Dr)(n:Nat):Nat:=(l.filter fun e=>decide (e.2=(n:Int))).length
def cntO (o:Option Nod)(n:Nat):Nat:=match o with
 | some x=>(match x.dir with
  | some l=>cntD l n
  | none=>0)
 | none=>0
def sumN :Nat->(Nat->Nat)->Nat
 | 0,_=>0
 | k+1,f=>sumN k f+f k
def cntE (st:Brs)(n:Nat):Nat:=sumN 201 fun i=>cntO (st.nod i) n
def SrtN (l:Dr):Prop:=SrtD l/\∀e∈l,e.1.length<=60
theorem mem_delD {s:Nam}{e:Nam×Int}:∀{l:Dr},e∈delD s l->e∈l
 | [],h=>h
 | x::l,h=>by
  unfold delD at h;split at h
  ·exact List.mem_cons_of_mem _ h
  ·rcases List.mem_cons.1 h with rfl | h
   ·simp
   ·exact List.mem_cons_of_mem _ (mem_delD h)
theorem SrtN.del {s:Nam}{l:Dr}(h:SrtN l):SrtN (delD s l):=⟨delD_srt h.1,fun e he=>h.2 e (mem_delD he)⟩
structure BInv (c:Nat)(st:Brs):Prop where
 ki:KInv st
 len:LenInv c st
 free:∀it∈st.free,∃n:Nat,it.n=(n:Nat)/\2<=n/\n<=200/\st.nod n=none
 fnd:(st.free.map (·.n)).Nodup
 root:∃x,st.nod 1=some x/\x.kind=2
 ran:∀i x,st.nod i=some x->1<=i/\i<=200
 hold:∀i x,st.nod i=some x->x.holds=0
 lnk:∀i x,st.nod i=some x->i≠1->x.links=(cntE st i:Nat)/\1<=x.links/\x.links<=20/\(x.kind=2->x.links=1)
 rl:∀x,st.nod 1=some x->1<=x.links/\x.links<=20
 ent:∀i x l s v,st.nod i=some x->x.dir=some l->lookD s l=some v->∃n:Nat,v=(n:Nat)/\2<=n/\n<=200/\∃y,st.nod n=some y/\(y.kind=2->y.parent=(i:Nat))
 par:∀n y,st.nod n=some y->y.kind=2->n≠1->∃(p:Nat) (x:Nod) (l:Dr) (s:Nam),y.parent=(p:Nat)/\st.nod p=some x/\x.dir=some l/\lookD s l=some ((n:Nat):Int)
 rank:∃rk,RankInv st rk
 srt:∀i x l,st.nod i=some x->x.dir=some l->SrtN l
end Go.Shade
namespace Go.Shade
end Go.Shade
namespace Go.Shade
end Go.Shade
namespace Go.Shade
end Go.Shade
namespace Go.Shade
end Go.Shade
namespace Go.Shade
end Go.Shade
namespace Go.Shade
end Go.Shade
namespace Go.Shade
variable {H : Heap} {c i : Nat} {own : Nat -> Nat} {v : IV}
def TS (s:Nat)(P:Nat->Prop)(H:Heap)(v:IV)(cs:List IV):Prop :=
 (v=.nilSlice/\cs=[])∨∃r n ex,v=.slice r 0 n n ex s/\P r/\H[r]? =some (.row cs false)/\cs.length=n*s
theorem TS.frame {s:Nat}{P F:Nat->Prop}{H':Heap}{cs:List IV}(h:TS s P H v cs)(k:Frame F H H')(hf:∀j,P j->¬F j):TS s P H' v cs:=by
 rcases h with h | ⟨r,n,ex,h1,h2,h3,h4⟩
 ·exact .inl h
 ·exact .inr ⟨r,n,ex,h1,h2,k.get (hf r h2) h3,h4⟩
theorem TS.mono {s:Nat}{P Q:Nat->Prop}{cs:List IV}(h:TS s P H v cs)(k:∀j,P j->Q j):TS s Q H v cs:=by
 rcases h with h | ⟨r,n,ex,h1,h2,h3,h4⟩
 ·exact .inl h
 ·exact .inr ⟨r,n,ex,h1,k r h2,h3,h4⟩
def EntR (e:Nam×Int):Prop:=1<=e.2/\e.2<=200/\e.1.length<=60
def RCell (c:Nat)(own:Nat->Nat)(H:Heap)(i k:Nat)(v:IV):Prop :=
 if k<4 then ∃z:Int,v=.int .i64 z
 else if k=4 then ∃z:Int,v=.int .i64 z/\0<=z/\z<=200
 else if k=5 then ∃cs:List IV,TS 1 (fun j=>own j=3*i+1) H v cs/\cs.all IV.one=true/\cs.length<=65536
 else if k=6 then ∃bs:List Bool,TS 1 (fun j=>own j=3*i+2) H v (bs.map .bool)/\bs.length<=4096
 else if k=7 then ∃l:Dr,TS 2 (fun j=>own j=3*i+3) H v (fl (prs l))/\l.length<=c/\∀e∈l,EntR e
 else ∃t:Nam,v=.str t
structure RB (c:Nat)(own:Nat->Nat)(H:Heap)(b:Nat)(s:Nat)(R:List IV):Prop where
 ob:own b=701
 row:H[b]? =some (.row R false)
 len:R.length=1810
 r0:R[0]? =some (.ptr s 0)
 os:own s=700
 sto:∃x y:Int,H[s]? =some (.row [.int .i64 x,.int .i64 y] false)
 cel:∀i k,i<=200->k<9->∃v,R[1+9*i+k]? =some v/\RCell c own H i k v
 lt:∀j,own j≠0->j<H.length
theorem RCell.frame {c c':Nat}{own own':Nat->Nat}{H H':Heap}{i k t:Nat}{v:IV}(h:RCell c own H i k v)(hc:c<=c'){F:Nat->Prop}(hF:Frame F H H')(hf:∀j,own j≠0->own j<700->own j≠t->¬F j)(ho:∀u,u≠0->u≠t->∀j,own j=u↔own' j=u)(ht:t=0∨3*i+k≠t+4∨k<5∨7<k)(hi:i<=200):RCell c' own' H' i k v:=by
 unfold RCell at *;split at h
 ·rw[if_pos ‹_›];exact h
 ·rename_i k4;rw[if_neg k4];split at h
  ·rw[if_pos ‹_›];exact h
  ·rename_i k4';rw[if_neg k4'];split at h
   ·rename_i e;rw[if_pos e];obtain⟨cs,a,b⟩:=h;exact⟨cs,(a.frame hF fun j hj=>hf j (by omega) (by omega) (by omega)).mono fun j hj=>(ho _ (by omega) (by omega) j).1 hj,b⟩
   ·rename_i k5;rw[if_neg k5];split at h
    ·rename_i e;rw[if_pos e];obtain⟨cs,a,b⟩:=h;exact⟨cs,(a.frame hF fun j hj=>hf j (by omega) (by omega) (by omega)).mono fun j hj=>(ho _ (by omega) (by omega) j).1 hj,b⟩
    ·rename_i k6;rw[if_neg k6];split at h
     ·rename_i e;rw[if_pos e];obtain⟨cs,a,b,d⟩:=h;exact⟨cs,(a.frame hF fun j hj=>hf j (by omega) (by omega) (by omega)).mono fun j hj=>(ho _ (by omega) (by omega) j).1 hj,by omega,d⟩
     ·rename_i k7;rw[if_neg k7];exact h
section
variable {c c' : Nat} {own : Nat -> Nat} {H H' : Heap} {b s : Nat} {R R' : List IV}
theorem RB.put (h:RB c own H b s R)(hl:R'.length=1810)(h0:R'[0]? =R[0]?)(hc:∀i k,i<=200->k<9->R'[1+9*i+k]? =R[1+9*i+k]? ∨∃v,R'[1+9*i+k]? =some v/\RCell c own H i k v):RB c own (H.set b (.row R' false)) b s R':=by
 obtain⟨x,y,hs⟩:=h.sto;have hF:Frame (fun j=>j=b) H (H.set b (.row R' false)):=Frame.set _ _ rfl;have hbo:=h.ob;refine⟨h.ob,setAt h.row,hl,h0.trans h.r0,h.os,⟨x,y,hF.get (fun e=>by have:=h.os;rw[e]at this;omega) hs⟩,fun i k hi hk=> ?_,fun j hj=>by rw[List.length_set];exact h.lt j hj⟩;have up:∀v,RCell c own H i k v->RCell c own (H.set b (.row R' false)) i k v:=fun v d=>d.frame (t:=0) (Nat.le_refl c) hF (fun j _ h7 _ e=>by subst e;omega) (fun u _ _ j=>Iff.rfl) (.inl rfl) hi;rcases hc i k hi hk with e | ⟨v,e,d⟩
 ·obtain⟨v,a,d⟩:=h.cel i k hi hk;exact⟨v,e.trans a,up v d⟩
 ·exact⟨v,e,up v d⟩
theorem RB.ptr (h:RB c own H b s R){i k:Nat}(hi:i<=200)(hk:k<9):∃v,lload1 H (.ptr b (1+i*9+k))=some v/\R[1+9*i+k]? =some v/\RCell c own H i k v:=by
 obtain⟨v,a,d⟩:=h.cel i k hi hk;exact⟨v,by rw[ld1 h.row,show 1+i*9+k=1+9*i+k by omega];exact a,a,d⟩
theorem RB.int (h:RB c own H b s R){i k:Nat}(hi:i<=200)(hk:k<5):∃z:Int,lload1 H (.ptr b (1+i*9+k))=some (.int .i64 z)/\(k=4->0<=z/\z<=200):=by
 obtain⟨v,a,_,d⟩:=h.ptr hi (show k<9 by omega);unfold RCell at d;split at d
 ·obtain⟨z,rfl⟩:=d;exact⟨z,a,fun e=>by omega⟩
 ·rw[if_pos (by omega)]at d;obtain⟨z,rfl,e⟩:=d;exact⟨z,a,fun _=>e⟩
end
theorem RCell.scal {k:Nat}(hk:k<4)(z:Int):RCell c own H i k (.int .i64 z):=by
 unfold RCell;rw[if_pos hk];exact⟨z,rfl⟩
theorem RCell.par {z:Int}(h:0<=z/\z<=200):RCell c own H i 4 (.int .i64 z):=by
 unfold RCell;rw[if_neg (by omega),if_pos rfl];exact⟨z,rfl,h⟩
theorem RCell.list :RCell c own H i 7 v↔∃l:Dr,TS 2 (fun j=>own j=3*i+3) H v (fl (prs l))/\l.length<=c/\∀e∈l,EntR e:=by
 unfold RCell;rw[if_neg (by omega),if_neg (by omega),if_neg (by omega),if_neg (by omega),if_pos rfl]
theorem RCell.body :RCell c own H i 5 v↔∃cs:List IV,TS 1 (fun j=>own j=3*i+1) H v cs/\cs.all IV.one=true/\cs.length<=65536:=by
 unfold RCell;rw[if_neg (by omega),if_neg (by omega),if_pos rfl]
theorem RCell.there :RCell c own H i 6 v↔∃bs:List Bool,TS 1 (fun j=>own j=3*i+2) H v (bs.map .bool)/\bs.length<=4096:=by
 unfold RCell;rw[if_neg (by omega),if_neg (by omega),if_neg (by omega),if_pos rfl]
theorem RCell.targ (t:Nam):RCell c own H i 8 (.str t):=by
 unfold RCell;rw[if_neg (by omega),if_neg (by omega),if_neg (by omega),if_neg (by omega),if_neg (by omega)];exact⟨t,rfl⟩
theorem RCell.nil {k:Nat}(h5:5<=k)(h7:k<=7):RCell c own H i k .nilSlice:=by
 have:k=5∨k=6∨k=7:=by omega
 rcases this with rfl | rfl | rfl
 ·exact RCell.body.2 ⟨[],.inl ⟨rfl,rfl⟩,rfl,by simp⟩
 ·exact RCell.there.2 ⟨[],.inl ⟨rfl,rfl⟩,by simp⟩
 ·exact RCell.list.2 ⟨[],.inl ⟨rfl,rfl⟩,by simp,fun e h=>by cases h⟩
section
variable {cal : FuncId -> Bool} {O : Oracle} {N : Nat}
end
end Go.Shade
namespace Go.Shade
section
variable {cal : FuncId -> Bool} {O : Oracle} {N : Nat}
end
end Go.Shade
namespace Go.Shade
section
variable {cal : FuncId -> Bool} {O : Oracle} {N : Nat}
end
end Go.Shade
namespace Go.Shade
section
variable {cal : FuncId -> Bool} {O : Oracle} {N : Nat}
theorem RB.node {c:Nat}{own:Nat->Nat}{H:Heap}{b s:Nat}{R:List IV}(h:RB c own H b s R){i:Nat}(hi:i<=200){k p:Int}{l:Int}{t:Nam}(hp:0<=p/\p<=200) :
  ∃H' R',lstV H 9 (.ptr b (1+i*9)) (.agg [.int .i64 k,.int .i64 l,.int .i64 0,.int .i64 0,.int .i64 p,.nilSlice,.nilSlice,.nilSlice,.str t])=some (.tuple [],H')/\RB c own H' b s R'/\Frame (fun j=>own j≠0) H H':=by
 let cs:List IV:=[.int .i64 k,.int .i64 l,.int .i64 0,.int .i64 0,.int .i64 p,.nilSlice,.nilSlice,.nilSlice,.str t]
 have hst:lstV H 9 (.ptr b (1+i*9)) (.agg cs)=some (.tuple [],H.set b (.row (putAt R (1+i*9) cs) false)):=by
  rw[lstV_ptr,h.row];unfold putO;simp only[IV.cells,isTuple];rw[if_pos ⟨trivial,rfl,by rw[h.len];show 1+i*9+9<=1810;omega,rfl⟩];rfl
 have hle:1+i*9+cs.length<=R.length:=by rw[h.len];show 1+i*9+9<=1810;omega
 refine⟨_,putAt R (1+i*9) cs,hst,h.put (by rw[putAt_length hle];exact h.len) (by rw[putAt_get hle,if_neg (by omega)]) fun i' k' hi' hk'=> ?_,Frame.set _ _ (by rw[h.ob];decide)⟩;rw[putAt_get hle];by_cases e:i'=i
 ·subst e;right;have hcl:cs.length=9:=rfl;rw[hcl,if_pos (show 1+i'*9<=1+9*i'+k'/\1+9*i'+k'<1+i'*9+9 by omega),show 1+9*i'+k' - (1+i'*9)=k' by omega]
  match k',hk' with
  | 0,_=>exact⟨_,rfl,RCell.scal (by omega) _⟩
  | 1,_=>exact⟨_,rfl,RCell.scal (by omega) _⟩
  | 2,_=>exact⟨_,rfl,RCell.scal (by omega) _⟩
  | 3,_=>exact⟨_,rfl,RCell.scal (by omega) _⟩
  | 4,_=>exact⟨_,rfl,RCell.par hp⟩
  | 5,_=>exact⟨_,rfl,RCell.nil (by omega) (by omega)⟩
  | 6,_=>exact⟨_,rfl,RCell.nil (by omega) (by omega)⟩
  | 7,_=>exact⟨_,rfl,RCell.nil (by omega) (by omega)⟩
  | 8,_=>exact⟨_,rfl,RCell.targ t⟩
 ·left;have hcl:cs.length=9:=rfl;rw[hcl,if_neg (show ¬(1+i*9<=1+9*i'+k'/\1+9*i'+k'<1+i*9+9) by omega)]
end
end Go.Shade
namespace Go.Shade
section
variable {c c' : Nat} {own : Nat -> Nat} {H H' K : Heap} {b s i k : Nat} {R : List IV}
end
section
variable {cal : FuncId -> Bool} {O : Oracle} {N : Nat}
end
end Go.Shade
namespace Go.Shade
section
variable {cal : FuncId -> Bool} {O : Oracle} {N : Nat}
end
end Go.Shade
namespace Go.Shade
structure RL (c:Nat)(own:Nat->Nat)(H:Heap)(b s:Nat)(own1:Nat->Nat)(K:Heap)(R1:List IV):Prop where
 rb:RB c own1 K b s R1
 fr:Frame (fun j=>own j≠0) H K
 fh:∀j,own1 j≠0->own j≠0∨H.length<=j
theorem RL.sl {c s' n:Nat}{own own1:Nat->Nat}{H K:Heap}{b s:Nat}{R1:List IV}{v:IV}{cs:List IV}(h:RL c own H b s own1 K R1)(hs:Sl s' H v n cs)(ha:At (fun j=>own j=0) v):Sl s' K v n cs:=hs.frame h.fr (ha.mono fun j hj hn=>hn hj)
section
variable {cal : FuncId -> Bool} {O : Oracle} {N : Nat}
end
end Go.Shade
namespace Go.Shade
section
variable {cal : FuncId -> Bool} {O : Oracle} {N : Nat}
end
end Go.Shade
namespace Go.Shade
def z9 :List IV:=[.int .i64 0,.int .i64 0,.int .i64 0,.int .i64 0,.int .i64 0,.nilSlice,.nilSlice,.nilSlice,.str []]
section
variable {cal : FuncId -> Bool} {O : Oracle} {N : Nat}
end
end Go.Shade
namespace Go.Shade
def X1 (c:Nat)(o:Nat->Nat)(H:Heap)(b:Nat):Prop:=∃st,BrOk o H b st/\BInv c st
def X2 (c:Nat)(o:Nat->Nat)(H:Heap)(b:Nat):Prop:=∃s R,RB c o H b s R
def Dj (o o':Nat->Nat):Prop:=∀j,o j≠0->o' j=0
def UpZ (B:Nat)(Z:Nat->Prop)(o:Nat->Nat):Prop:=∀j,o j≠0->B<=j/\¬Z j
def W2 (c B:Nat)(Z:Nat->Prop)(H:Heap)(b1 r1 b2 r2:Nat):Prop:=∃o1 o2 o3 o4,X1 c o1 H b1/\X2 c o2 H r1/\X1 c o3 H b2/\X2 c o4 H r2/\(Dj o1 o2/\Dj o1 o3/\Dj o1 o4/\Dj o2 o3/\Dj o2 o4/\Dj o3 o4)/\UpZ B Z o1/\UpZ B Z o2/\UpZ B Z o3/\UpZ B Z o4
theorem Dj.next {o o' o2:Nat->Nat}{H:Heap}(h:Dj o o2)(hu:∀j,o' j≠0->o j≠0∨H.length<=j)(hl:∀j,o2 j≠0->j<H.length):Dj o' o2:=fun j hj=>by
 rcases hu j hj with h' | h'
 ·exact h j h'
 ·cases e:o2 j with
  | zero=>rfl
  | succ n=>have:=hl j (by omega);omega
theorem UpZ.next {B:Nat}{Z:Nat->Prop}{o o':Nat->Nat}{H:Heap}(h:UpZ B Z o)(hu:∀j,o' j≠0->o j≠0∨H.length<=j)(hB:B<=H.length)(hZ:∀j,Z j->j<H.length):UpZ B Z o':=fun j hj=>by
 rcases hu j hj with h' | h'
 ·exact h j h'
 ·exact⟨by omega,fun e=>by have:=hZ j e;omega⟩
end Go.Shade
namespace Go.Shade
section
variable {cal : FuncId -> Bool} {O : Oracle} {N : Nat}
variable {f1 f2 f3 f4 f5 f6 f7 f8 f9 f10 f11 f12 f13 f14 : FuncId}
end
end Go.Shade
namespace Go.Shade
section
variable {cal : FuncId -> Bool} {O : Oracle} {N : Nat}
variable {f1 f2 f3 f4 f5 f6 f7 f8 f9 f10 f11 f12 f13 f14 : FuncId}
end
end Go.Shade
namespace Go.Shade
section
variable {cal : FuncId -> Bool} {O : Oracle} {N : Nat}
variable {H H' : Heap} {v b1 b2 : Nat} {u l : Int} {st1 st2 : Brs} {U L : Int} {s : Nam}
end
end Go.Shade
namespace Go.Shade
section
variable {cal : FuncId -> Bool} {O : Oracle} {N : Nat}
variable {H H' : Heap} {v b1 b2 : Nat} {u l : Int} {st1 st2 : Brs} {U L : Int} {s : Nam}
end
end Go.Shade
namespace Go.Shade
def BsCutL0 :LC :=
 (.seq (.reg [
  ⟨(some 23),(.nxt (.t 22)),none⟩,
  ⟨(some 24),(.ext (.t 23) 0),none⟩])
 (.seq (.cond (.t 24) .skip (.exit 1))
 (.block 2 (.seq (.reg [
  ⟨(some 25),(.ent (.t 22)),none⟩,
  ⟨(some 26),(.ext (.t 25) 0),none⟩,
  ⟨(some 27),(.ext (.t 25) 1),none⟩,
  ⟨(some 9),(.zbox (.agg [(.int .u8 0),(.int .u8 0),(.int .u8 0),(.int .u8 0),(.int .u8 0),(.int .u8 0),(.int .u8 0),(.int .u8 0),(.int .u8 0),(.int .u8 0),(.int .u8 0),(.int .u8 0),(.int .u8 0),(.int .u8 0),(.int .u8 0),(.int .u8 0)])),none⟩,
  ⟨(some 8),(.mv (.t 26)),none⟩,
  ⟨none,(.st 16 (.t 9) (.t 27)),none⟩])
 (.seq (.reg [
  ⟨(some 28),(.mv (.t 8)),none⟩,
  ⟨(some 29),(.bin .mul (.t 28) (.k (.int .i64 16))),none⟩,
  ⟨(some 10),(.mv (.t 29)),none⟩])
 (.block 3 (.seq (.reg [
  ⟨(some 31),(.mv (.t 10)),none⟩,
  ⟨(some 32),(.mv (.t 7)),none⟩,
  ⟨(some 33),(.bin .geq (.t 31) (.t 32)),none⟩,
  ⟨(some 30),(.mv (.t 33)),none⟩])
 (.cond (.t 30) (.seq (.reg [
  ⟨(some 34),(.mv (.t 1)),none⟩,
  ⟨(some 35),(.chk (.t 34)),none⟩,
  ⟨(some 36),(.off (.t 35) 1),none⟩,
  ⟨(some 37),(.ld1 (.t 36)),none⟩,
  ⟨(some 38),(.mv (.t 8)),none⟩,
  ⟨none,(.del .int (.t 37) (.t 38)),none⟩])
 (.reg [
  ⟨(some 39),(.mv (.t 0)),none⟩,
  ⟨(some 40),(.chk (.t 39)),none⟩,
  ⟨(some 41),(.off (.t 40) 1),none⟩,
  ⟨(some 42),(.ld1 (.t 41)),none⟩,
  ⟨(some 43),(.bin .sub (.t 42) (.k (.int .i64 1))),none⟩,
  ⟨(some 44),(.chk (.t 39)),none⟩,
  ⟨(some 45),(.off (.t 44) 1),none⟩,
  ⟨none,(.st 1 (.t 45) (.t 43)),none⟩])) (.seq (.reg [
  ⟨(some 47),(.mv (.t 10)),none⟩,
  ⟨(some 48),(.bin .add (.t 47) (.k (.int .i64 16))),none⟩,
  ⟨(some 49),(.mv (.t 7)),none⟩,
  ⟨(some 50),(.bin .gtr (.t 48) (.t 49)),none⟩,
  ⟨(some 46),(.mv (.t 50)),none⟩])
 (.cond (.t 46) (.seq (.reg [
  ⟨(some 51),(.mv (.t 7)),none⟩,
  ⟨(some 52),(.mv (.t 10)),none⟩,
  ⟨(some 53),(.bin .sub (.t 51) (.t 52)),none⟩,
  ⟨(some 54),(.slc (.arr 16 1) (.t 9) (some (.t 53)) none none),none⟩,
  ⟨none,(.clrS [(.int .u8 0)] (.t 54)),none⟩])
 (.drw [
  ⟨(some 55),(.mv (.t 1)),none⟩,
  ⟨(some 56),(.chk (.t 55)),none⟩,
  ⟨(some 57),(.off (.t 56) 1),none⟩,
  ⟨(some 58),(.ld1 (.t 57)),none⟩,
  ⟨(some 59),(.mv (.t 8)),none⟩,
  ⟨(some 60),(.ldn 16 (.t 9)),none⟩,
  ⟨none,(.upd .int (.t 58) (.t 59) (.t 60)),none⟩] [])) .skip))))))))))
def BsCut :LFun:=⟨(.seq (.reg [
  ⟨(some 6),(.mv (.k (.int .i64 0))),none⟩])
 (.seq (.block 0 (.seq (.reg [
  ⟨(some 12),(.mv (.t 2)),none⟩,
  ⟨(some 13),(.bin .lss (.t 12) (.k (.int .i64 0))),none⟩,
  ⟨(some 11),(.mv (.t 13)),none⟩])
 (.cond (.t 11) (.seq (.reg [
  ⟨(some 6),(.mv (.k (.int .i64 22))),none⟩])
 .ret) (.seq (.reg [
  ⟨(some 15),(.mv (.t 2)),none⟩,
  ⟨(some 16),(.bin .gtr (.t 15) (.k (.int .i64 65536))),none⟩,
  ⟨(some 14),(.mv (.t 16)),none⟩])
 (.cond (.t 14) (.seq (.reg [
  ⟨(some 6),(.mv (.k (.int .i64 27))),none⟩])
 .ret) .skip)))))
 (.seq (.reg [
  ⟨(some 17),(.mv (.t 2)),none⟩,
  ⟨(some 7),(.mv (.t 17)),none⟩])
 (.seq (.seq (.reg [
  ⟨(some 18),(.mv (.t 1)),none⟩,
  ⟨(some 19),(.chk (.t 18)),none⟩,
  ⟨(some 20),(.off (.t 19) 1),none⟩,
  ⟨(some 21),(.ld1 (.t 20)),none⟩,
  ⟨(some 22),(.rng (.t 21)),none⟩])
 (.block 1 (.loop BsCutL0)))
 (.seq (.reg [
  ⟨(some 61),(.mv (.t 1)),none⟩,
  ⟨(some 62),(.mv (.t 7)),none⟩,
  ⟨(some 63),(.chk (.t 61)),none⟩,
  ⟨(some 64),(.off (.t 63) 0),none⟩,
  ⟨none,(.st 1 (.t 64) (.t 62)),none⟩])
 (.seq (.reg [
  ⟨(some 6),(.mv (.k (.int .i64 0))),none⟩])
 .ret)))))),[(.tmp 6)],65⟩
end Go.Shade
namespace Go.Shade
variable {k : KT (IV × Heap)}
def BsCutXC0 :LC:=.seq (.reg [
  ⟨(some 6),(.mv (.k (.int .i64 0))),none⟩]) (.seq (.block 0 (.seq (.reg [
  ⟨(some 12),(.mv (.t 2)),none⟩,
  ⟨(some 13),(.bin .lss (.t 12) (.k (.int .i64 0))),none⟩,
  ⟨(some 11),(.mv (.t 13)),none⟩])
 (.cond (.t 11) (.seq (.reg [
  ⟨(some 6),(.mv (.k (.int .i64 22))),none⟩])
 .ret)
 (.seq (.reg [
  ⟨(some 15),(.mv (.t 2)),none⟩,
  ⟨(some 16),(.bin .gtr (.t 15) (.k (.int .i64 65536))),none⟩,
  ⟨(some 14),(.mv (.t 16)),none⟩])
 (.cond (.t 14) (.seq (.reg [
  ⟨(some 6),(.mv (.k (.int .i64 27))),none⟩])
 .ret)
 .skip)))))
 (.reg [
  ⟨(some 17),(.mv (.t 2)),none⟩,
  ⟨(some 7),(.mv (.t 17)),none⟩]))
def BsCutXC1 :LC:=.seq (.reg [
  ⟨(some 25),(.ent (.t 22)),none⟩,
  ⟨(some 26),(.ext (.t 25) 0),none⟩,
  ⟨(some 27),(.ext (.t 25) 1),none⟩,
  ⟨(some 9),(.zbox (.agg [(.int .u8 0),(.int .u8 0),(.int .u8 0),(.int .u8 0),(.int .u8 0),(.int .u8 0),(.int .u8 0),(.int .u8 0),(.int .u8 0),(.int .u8 0),(.int .u8 0),(.int .u8 0),(.int .u8 0),(.int .u8 0),(.int .u8 0),(.int .u8 0)])),none⟩,
  ⟨(some 8),(.mv (.t 26)),none⟩,
  ⟨none,(.st 16 (.t 9) (.t 27)),none⟩]) (.seq (.reg [
  ⟨(some 28),(.mv (.t 8)),none⟩,
  ⟨(some 29),(.bin .mul (.t 28) (.k (.int .i64 16))),none⟩,
  ⟨(some 10),(.mv (.t 29)),none⟩])
 (.block 3 (.seq (.reg [
  ⟨(some 31),(.mv (.t 10)),none⟩,
  ⟨(some 32),(.mv (.t 7)),none⟩,
  ⟨(some 33),(.bin .geq (.t 31) (.t 32)),none⟩,
  ⟨(some 30),(.mv (.t 33)),none⟩])
 (.cond (.t 30) (.seq (.reg [
  ⟨(some 34),(.mv (.t 1)),none⟩,
  ⟨(some 35),(.chk (.t 34)),none⟩,
  ⟨(some 36),(.off (.t 35) 1),none⟩,
  ⟨(some 37),(.ld1 (.t 36)),none⟩,
  ⟨(some 38),(.mv (.t 8)),none⟩,
  ⟨none,(.del .int (.t 37) (.t 38)),none⟩])
 (.reg [
  ⟨(some 39),(.mv (.t 0)),none⟩,
  ⟨(some 40),(.chk (.t 39)),none⟩,
  ⟨(some 41),(.off (.t 40) 1),none⟩,
  ⟨(some 42),(.ld1 (.t 41)),none⟩,
  ⟨(some 43),(.bin .sub (.t 42) (.k (.int .i64 1))),none⟩,
  ⟨(some 44),(.chk (.t 39)),none⟩,
  ⟨(some 45),(.off (.t 44) 1),none⟩,
  ⟨none,(.st 1 (.t 45) (.t 43)),none⟩]))
 (.seq (.reg [
  ⟨(some 47),(.mv (.t 10)),none⟩,
  ⟨(some 48),(.bin .add (.t 47) (.k (.int .i64 16))),none⟩,
  ⟨(some 49),(.mv (.t 7)),none⟩,
  ⟨(some 50),(.bin .gtr (.t 48) (.t 49)),none⟩,
  ⟨(some 46),(.mv (.t 50)),none⟩])
 (.cond (.t 46) (.seq (.reg [
  ⟨(some 51),(.mv (.t 7)),none⟩,
  ⟨(some 52),(.mv (.t 10)),none⟩,
  ⟨(some 53),(.bin .sub (.t 51) (.t 52)),none⟩,
  ⟨(some 54),(.slc (.arr 16 1) (.t 9) (some (.t 53)) none none),none⟩,
  ⟨none,(.clrS [(.int .u8 0)] (.t 54)),none⟩])
 (.drw [
  ⟨(some 55),(.mv (.t 1)),none⟩,
  ⟨(some 56),(.chk (.t 55)),none⟩,
  ⟨(some 57),(.off (.t 56) 1),none⟩,
  ⟨(some 58),(.ld1 (.t 57)),none⟩,
  ⟨(some 59),(.mv (.t 8)),none⟩,
  ⟨(some 60),(.ldn 16 (.t 9)),none⟩,
  ⟨none,(.upd .int (.t 58) (.t 59) (.t 60)),none⟩] []))
 .skip))))))
def BsCutXC2 :LC:=.seq (.reg [
  ⟨(some 61),(.mv (.t 1)),none⟩,
  ⟨(some 62),(.mv (.t 7)),none⟩,
  ⟨(some 63),(.chk (.t 61)),none⟩,
  ⟨(some 64),(.off (.t 63) 0),none⟩,
  ⟨none,(.st 1 (.t 64) (.t 62)),none⟩]) (.seq (.reg [
  ⟨(some 6),(.mv (.k (.int .i64 0))),none⟩])
 .ret)
def BsCutXC2S (cal:FuncId->Bool)(O:Oracle)(N:Nat)(v0 v1 v7 v22:IV)(H:Heap):Option (IV×Heap) :=
  ob (lchk v1) fun t1 =>
  ob (loff t1 0) fun t2 =>
  ob (lstV H 1 t2 v7) fun r3 =>
  some ((.tuple [(.int .i64 0),v0,v1,v7,v22]),r3.2)
theorem BsCutXC2Eq (cal:FuncId->Bool)(O:Oracle)(N:Nat)(hR:∀E H,k .ret E H=resK [(.tmp 6),(.tmp 0),(.tmp 1),(.tmp 7),(.tmp 22)] [] E H):∀(E:Sg) (H:Heap),lxK cal O N BsCutXC2 E H k=BsCutXC2S cal O N (lk E 0) (lk E 1) (lk E 7) (lk E 22) H:=by
 have hk:k=(kR (resK [(.tmp 6),(.tmp 0),(.tmp 1),(.tmp 7),(.tmp 22)] []) k):=(kR_mk hR rfl);intro E H;rw[hk];show lxK cal O N (.reg [
  ⟨(some 61),(.mv (.t 1)),none⟩,
  ⟨(some 62),(.mv (.t 7)),none⟩,
  ⟨(some 63),(.chk (.t 61)),none⟩,
  ⟨(some 64),(.off (.t 63) 0),none⟩,
  ⟨none,(.st 1 (.t 64) (.t 62)),none⟩]) E H (seqK (lxK cal O N (.seq (.reg [
  ⟨(some 6),(.mv (.k (.int .i64 0))),none⟩])
 .ret)) (kR (resK [(.tmp 6),(.tmp 0),(.tmp 1),(.tmp 7),(.tmp 22)] []) k))=_
 kernel_rfl
def BsCutXC1S (cal:FuncId->Bool)(O:Oracle)(N:Nat)(gN:IV->IV->IV->IV->Heap->Option (IV×Heap))(v0 v1 v7 v22:IV)(H:Heap):Option (IV×Heap) :=
  ob (ientry H v22) fun t1 =>
  ob (iextract t1 0) fun t2 =>
  ob (iextract t1 1) fun t3 =>
  ob (lzbox H (.agg [(.int .u8 0),(.int .u8 0),(.int .u8 0),(.int .u8 0),(.int .u8 0),(.int .u8 0),(.int .u8 0),(.int .u8 0),(.int .u8 0),(.int .u8 0),(.int .u8 0),(.int .u8 0),(.int .u8 0),(.int .u8 0),(.int .u8 0),(.int .u8 0)])) fun r4 =>
  ob (lstV r4.2 16 r4.1 t3) fun r5 =>
  ob (lbin .mul t2 (.int .i64 16)) fun t6 =>
  jn (fun(H38:Heap) =>
  gN v0 v1 v7 v22 H38) fun J7 =>
  ob (lbin .geq t6 v7) fun t39 =>
  cnd t39
  (ob (lchk v1) fun t40 =>
  ob (loff t40 1) fun t41 =>
  ob (lload1 r5.2 t41) fun t42 =>
  ob (ldelV r5.2 .int t42 t2) fun r43 =>
  ob (lchk v0) fun t44 =>
  ob (loff t44 1) fun t45 =>
  ob (lload1 r43.2 t45) fun t46 =>
  ob (lbin .sub t46 (.int .i64 1)) fun t47 =>
  ob (lchk v0) fun t48 =>
  ob (loff t48 1) fun t49 =>
  ob (lstV r43.2 1 t49 t47) fun r50 =>
  J7 r50.2)
  (ob (lbin .add t6 (.int .i64 16)) fun t51 =>
  ob (lbin .gtr t51 v7) fun t52 =>
  cnd t52
  (ob (lbin .sub v7 t6) fun t53 =>
  ob (lslice r5.2 (.arr 16 1) r4.1 (some t53) none none) fun t54 =>
  ob (lclrS r5.2 [(.int .u8 0)] t54) fun r55 =>
  ob (lchk v1) fun t56 =>
  ob (loff t56 1) fun t57 =>
  ob (lload1 r55.2 t57) fun t58 =>
  ob (lloadn r55.2 16 r4.1) fun t59 =>
  ob (lupdV r55.2 .int t58 t2 t59) fun r60 =>
  J7 r60.2)
  (J7 r5.2))
theorem BsCutXC1Eq (cal:FuncId->Bool)(O:Oracle)(N:Nat)(gN:IV->IV->IV->IV->Heap->Option (IV×Heap))(hgN:∀E H,k .normal E H=gN (lk E 0) (lk E 1) (lk E 7) (lk E 22) H):∀(E:Sg) (H:Heap),lxK cal O N BsCutXC1 E H k=BsCutXC1S cal O N gN (lk E 0) (lk E 1) (lk E 7) (lk E 22) H:=by
 have hk:k=(kN (fun E H=>gN (lk E 0) (lk E 1) (lk E 7) (lk E 22) H) k):=(kN_mk hgN rfl);intro E H;rw[hk];show lxK cal O N (.reg [
  ⟨(some 25),(.ent (.t 22)),none⟩,
  ⟨(some 26),(.ext (.t 25) 0),none⟩,
  ⟨(some 27),(.ext (.t 25) 1),none⟩,
  ⟨(some 9),(.zbox (.agg [(.int .u8 0),(.int .u8 0),(.int .u8 0),(.int .u8 0),(.int .u8 0),(.int .u8 0),(.int .u8 0),(.int .u8 0),(.int .u8 0),(.int .u8 0),(.int .u8 0),(.int .u8 0),(.int .u8 0),(.int .u8 0),(.int .u8 0),(.int .u8 0)])),none⟩,
  ⟨(some 8),(.mv (.t 26)),none⟩,
  ⟨none,(.st 16 (.t 9) (.t 27)),none⟩]) E H (seqK (lxK cal O N (.seq (.reg [
  ⟨(some 28),(.mv (.t 8)),none⟩,
  ⟨(some 29),(.bin .mul (.t 28) (.k (.int .i64 16))),none⟩,
  ⟨(some 10),(.mv (.t 29)),none⟩])
 (.block 3 (.seq (.reg [
  ⟨(some 31),(.mv (.t 10)),none⟩,
  ⟨(some 32),(.mv (.t 7)),none⟩,
  ⟨(some 33),(.bin .geq (.t 31) (.t 32)),none⟩,
  ⟨(some 30),(.mv (.t 33)),none⟩])
 (.cond (.t 30) (.seq (.reg [
  ⟨(some 34),(.mv (.t 1)),none⟩,
  ⟨(some 35),(.chk (.t 34)),none⟩,
  ⟨(some 36),(.off (.t 35) 1),none⟩,
  ⟨(some 37),(.ld1 (.t 36)),none⟩,
  ⟨(some 38),(.mv (.t 8)),none⟩,
  ⟨none,(.del .int (.t 37) (.t 38)),none⟩])
 (.reg [
  ⟨(some 39),(.mv (.t 0)),none⟩,
  ⟨(some 40),(.chk (.t 39)),none⟩,
  ⟨(some 41),(.off (.t 40) 1),none⟩,
  ⟨(some 42),(.ld1 (.t 41)),none⟩,
  ⟨(some 43),(.bin .sub (.t 42) (.k (.int .i64 1))),none⟩,
  ⟨(some 44),(.chk (.t 39)),none⟩,
  ⟨(some 45),(.off (.t 44) 1),none⟩,
  ⟨none,(.st 1 (.t 45) (.t 43)),none⟩]))
 (.seq (.reg [
  ⟨(some 47),(.mv (.t 10)),none⟩,
  ⟨(some 48),(.bin .add (.t 47) (.k (.int .i64 16))),none⟩,
  ⟨(some 49),(.mv (.t 7)),none⟩,
  ⟨(some 50),(.bin .gtr (.t 48) (.t 49)),none⟩,
  ⟨(some 46),(.mv (.t 50)),none⟩])
 (.cond (.t 46) (.seq (.reg [
  ⟨(some 51),(.mv (.t 7)),none⟩,
  ⟨(some 52),(.mv (.t 10)),none⟩,
  ⟨(some 53),(.bin .sub (.t 51) (.t 52)),none⟩,
  ⟨(some 54),(.slc (.arr 16 1) (.t 9) (some (.t 53)) none none),none⟩,
  ⟨none,(.clrS [(.int .u8 0)] (.t 54)),none⟩])
 (.drw [
  ⟨(some 55),(.mv (.t 1)),none⟩,
  ⟨(some 56),(.chk (.t 55)),none⟩,
  ⟨(some 57),(.off (.t 56) 1),none⟩,
  ⟨(some 58),(.ld1 (.t 57)),none⟩,
  ⟨(some 59),(.mv (.t 8)),none⟩,
  ⟨(some 60),(.ldn 16 (.t 9)),none⟩,
  ⟨none,(.upd .int (.t 58) (.t 59) (.t 60)),none⟩] []))
 .skip))))))) (kN (fun E H=>gN (lk E 0) (lk E 1) (lk E 7) (lk E 22) H) k))=_
 kernel_rfl
def BsCutXC0S (cal:FuncId->Bool)(O:Oracle)(N:Nat)(gN:IV->IV->IV->IV->Heap->Option (IV×Heap))(v0 v1 v2 v7 v22:IV)(H:Heap):Option (IV×Heap) :=
  ob (lbin .lss v2 (.int .i64 0)) fun t1 =>
  cnd t1
  (some ((.tuple [(.int .i64 22),v0,v1,v7,v22]),H))
  (ob (lbin .gtr v2 (.int .i64 65536)) fun t2 =>
  cnd t2
  (some ((.tuple [(.int .i64 27),v0,v1,v7,v22]),H))
  (gN v0 v1 v2 v22 H))
theorem BsCutXC0Eq (cal:FuncId->Bool)(O:Oracle)(N:Nat)(gN:IV->IV->IV->IV->Heap->Option (IV×Heap))(hgN:∀E H,k .normal E H=gN (lk E 0) (lk E 1) (lk E 7) (lk E 22) H)(hR:∀E H,k .ret E H=resK [(.tmp 6),(.tmp 0),(.tmp 1),(.tmp 7),(.tmp 22)] [] E H):∀(E:Sg) (H:Heap),lxK cal O N BsCutXC0 E H k=BsCutXC0S cal O N gN (lk E 0) (lk E 1) (lk E 2) (lk E 7) (lk E 22) H:=by
 have hk:k=(kN (fun E H=>gN (lk E 0) (lk E 1) (lk E 7) (lk E 22) H) (kR (resK [(.tmp 6),(.tmp 0),(.tmp 1),(.tmp 7),(.tmp 22)] []) k)):=(kN_mk hgN (kR_mk hR rfl));intro E H;rw[hk];show lxK cal O N (.reg [
  ⟨(some 6),(.mv (.k (.int .i64 0))),none⟩]) E H (seqK (lxK cal O N (.seq (.block 0 (.seq (.reg [
  ⟨(some 12),(.mv (.t 2)),none⟩,
  ⟨(some 13),(.bin .lss (.t 12) (.k (.int .i64 0))),none⟩,
  ⟨(some 11),(.mv (.t 13)),none⟩])
 (.cond (.t 11) (.seq (.reg [
  ⟨(some 6),(.mv (.k (.int .i64 22))),none⟩])
 .ret)
 (.seq (.reg [
  ⟨(some 15),(.mv (.t 2)),none⟩,
  ⟨(some 16),(.bin .gtr (.t 15) (.k (.int .i64 65536))),none⟩,
  ⟨(some 14),(.mv (.t 16)),none⟩])
 (.cond (.t 14) (.seq (.reg [
  ⟨(some 6),(.mv (.k (.int .i64 27))),none⟩])
 .ret)
 .skip)))))
 (.reg [
  ⟨(some 17),(.mv (.t 2)),none⟩,
  ⟨(some 7),(.mv (.t 17)),none⟩]))) (kN (fun E H=>gN (lk E 0) (lk E 1) (lk E 7) (lk E 22) H) (kR (resK [(.tmp 6),(.tmp 0),(.tmp 1),(.tmp 7),(.tmp 22)] []) k)))=_
 kernel_rfl
end Go.Shade
namespace Go.Shade
open Go.RowKit
variable {H : Heap}
theorem SimW.oneOf {P:Program}{g:FuncId}{args:List IV}{H K:Heap}{r':IV}{Q:IV->Heap->Prop}(h:SimW P g args H Q)(hle:H.length<=K.length)
  (hQ:∀r H1,Q r H1->r=r'/\∀(i:Nat) o,K[i]? =some o->(i<H.length/\H[i]? =some o/\H1[i]? =some o)∨(inBO K.length o=true/\H1[i]? =some o)) (hb:inB K.length r'=true):SimCall P g args H r' K:=by
 intro B0 w0 w m us hR hA;refine(h B0 w0 w m us hR hA).mono ?_;rintro e w' ⟨r,H1,m',u,hq,he,hext,hR',hu⟩;obtain⟨rfl,hk⟩:=hQ r H1 hq;have hk':∀(i:Nat) o,K[i]? =some o->inBO K.length o=true/\H1[id i]? =some (renO id o):=by
  intro i o hi;rcases hk i o hi with⟨h1,h2,h3⟩ | ⟨h4,h5⟩
  ·have hb:=inBO_le hle ((hR.good i o h2).inBO hR.dom);exact⟨hb,by rw[renO_id (n:=K.length) (f:=id) (fun _ _=>rfl) hb];exact h3⟩
  ·exact⟨h4,by rw[renO_id (n:=K.length) (f:=id) (fun _ _=>rfl) h4];exact h5⟩
 refine⟨Shade.sub K.length id m',u,he,fun i l hi=> ?_,hR'.gc id hk' (fun _ _ _ _ h=>h),VR_ren r u hb (by rw[ren_id (n:=K.length) (f:=id) (fun _ _=>rfl) _ hb];exact hu)⟩;have hlt:=hR.dom i l hi;simp only[Shade.sub,if_pos (Nat.lt_of_lt_of_le hlt hle)];exact hext i l hi
structure CutH (H0 H:Heap)(s p m:Nat)(room used sz:Int)(n0 c:Nat)(es:List Ent):Prop where
 st:H[s]? =some (.row [.int .i64 room,.int .i64 (IntKind.wrap .i64 (used - ((n0 - es.length:Nat):Int)))] false)
 bd:H[p]? =some (.row [.int .i64 sz,.map m] false)
 mp:H[m]? =some (.map es c)
 ne:s≠p/\m≠s/\m≠p
 lt:s<H0.length/\p<H0.length/\m<H0.length
 old:H0.length<=H.length/\∀i,i<H0.length->i≠s->i≠m->H[i]? =H0[i]?
theorem cut_nxt {I m c:Nat}{es:List Ent}{seen:List Nat}(hI:H[I]? =some (.iter (some m) c seen c))(hM:H[m]? =some (.map es c))(hc:ChOk es c)(hs:∀e∈es,e.2.2 ∉ seen) :
  ∃l,stNxt H (.ptr I 0)=some l/\∀r∈l,(es=[]/\r=(.tuple [.bool false],H))∨∃e∈es,r=(.tuple [.bool true,e.1,e.2.1],H.set I (.iter (some m) c (seen++[e.2.2]) c)):=by
 have hbf:∀e∈es,Nat.ble c e.2.2=false:=fun e he=>by
  have:=hc.id e he
  cases hx:Nat.ble c e.2.2 with
  | false=>rfl
  | true=>have:=nble hx;omega
 have hno:(!seen.isEmpty&&(!es.isEmpty&&es.all fun e=>Nat.ble c e.2.2))=false:=by
  cases es with
  | nil=>simp
  | cons e es=>simp[hbf e (by simp)]
 unfold stNxt;simp only[hI,hM];unfold nxtC;rw[hno];refine⟨_,rfl,fun r hr=> ?_⟩;obtain⟨o,ho,rfl⟩:=List.mem_map.1 hr;rcases List.mem_append.1 ho with ho | ho
 ·split at ho
  ·rename_i hemp;rw[List.mem_singleton]at ho;subst ho;refine .inl ⟨?_,rfl⟩;rw[List.isEmpty_iff]at hemp
   cases es with
   | nil=>rfl
   | cons e es =>
    have:=List.filter_eq_nil_iff.1 hemp e (by simp);rw[hbf e (by simp)]at this;have h2:=hs e (by simp);simp[h2]at this
  ·cases ho
 ·obtain⟨e,he,rfl⟩:=List.mem_map.1 ho;refine .inr ⟨e,?_,rfl⟩;rcases List.mem_append.1 he with he | he<;>exact(List.mem_filter.1 he).1
def gFour (a b c d:IV)(H:Heap):Option (IV×Heap):=some (.tuple [a,b,c,d],H)
def cutRs :List LRes:=[(.tmp 6),(.tmp 0),(.tmp 1),(.tmp 7),(.tmp 22)]
def cutK :KT (IV×Heap):=fun x E H=>match x with
 | .normal=>gFour (lk E 0) (lk E 1) (lk E 7) (lk E 22) H
 | .ret=>resK cutRs [] E H
 | .exit _=>none
theorem cutK_nor {E:Sg}{r:Out}(h:cutK .normal E H=some r):r=(.tuple [lk E 0,lk E 1,lk E 7,lk E 22],H):=by cases h;rfl
theorem cutK_ret {E:Sg}{r:Out}(h:cutK .ret E H=some r):r=(.tuple [lk E 6,lk E 0,lk E 1,lk E 7,lk E 22],H):=by cases h;rfl
theorem wrap_sub1 (x:Int):IntKind.wrap .i64 (IntKind.wrap .i64 x - 1)=IntKind.wrap .i64 (x - 1):=by
 have h:∀x:Int,IntKind.wrap .i64 x=if x % 18446744073709551616 ≥ 9223372036854775808 then x % 18446744073709551616 - 18446744073709551616 else x % 18446744073709551616:=by
  intro x;unfold IntKind.wrap;simp[IntKind.bits,IntKind.signed]
 rw[h (IntKind.wrap .i64 x - 1),h x,h (x - 1)];split<;>split<;>split<;>omega
theorem nodup_inj {α β:Type}{f:α->β}:∀{l:List α},(l.map f).Nodup->∀{a b:α},a∈l->b∈l->f a=f b->a=b
 | [],_,a,b,ha,_,_=>by cases ha
 | x::l,h,a,b,ha,hb,e=>by
  simp only[List.map_cons,List.nodup_cons]at h;rcases List.mem_cons.1 ha with ea | ha'
  ·rcases List.mem_cons.1 hb with eb | hb'
   ·rw[ea,eb]
   ·exact(h.1 (List.mem_map.2 ⟨b,hb',by rw[←e,ea]⟩)).elim
  ·rcases List.mem_cons.1 hb with eb | hb'
   ·exact(h.1 (List.mem_map.2 ⟨a,ha',by rw[e,eb]⟩)).elim
   ·exact nodup_inj h.2 ha' hb' e
section
variable {cal : FuncId -> Bool} {O : Oracle} {N : Nat}
theorem cut_b {H0 H:Heap}{s p m I n0 c:Nat}{room used sz:Int}{es:List Ent}{seen:List Nat}{e:Ent}(h:CutH H0 H s p m room used sz n0 c es)(hn:es.length<=n0)(hI:H[I]? =some (.iter (some m) c (seen++[e.2.2]) c))(hIn:I=H0.length)(hc:ChOk es c)(he:e∈es) :
  Wp (BsCutXC1S cal O N gFour (.ptr s 0) (.ptr p 0) (.int .i64 0) (.ptr I 0) H) fun r=>r.1=.tuple [.ptr s 0,.ptr p 0,.int .i64 0,.ptr I 0]/\∃es',es'.length+1=es.length/\CutH H0 r.2 s p m room used sz n0 c es'/\ChOk es' c/\(∀q∈es',q∈es/\q.2.2≠e.2.2)/\r.2[I]? =H[I]? :=by
 unfold BsCutXC1S;have hent:ientry H (.ptr I 0)=some (.tuple [e.1,e.2.1]):=by
  have hf:es.find? (fun q=>Nat.beq q.2.2 e.2.2)=some e:=by
   cases hq:es.find? (fun q=>Nat.beq q.2.2 e.2.2)with
   | none =>
    have:=List.find?_eq_none.1 hq e he;simp at this
   | some q =>
    have hm:=List.mem_of_find?_eq_some hq;have hp:=List.find?_some hq;have hp:=Nat.eq_of_beq_eq_true hp
    congr 1
    exact nodup_inj (f:=fun e:Ent=>e.2.2) hc.idup hm he hp
  simp only[ientry,hI,h.mp,Nat.beq_refl,if_true,List.getLast?_concat,hf,Option.map_some]
 obtain⟨k,hk,hk0,hk1⟩:=hc.key e he;obtain⟨cs,hv,hl,h1⟩:=hc.val e he;rw[hent,ob_some,iextract_tuple,iextract_tuple];simp only[List.getElem?_cons_zero,List.getElem?_cons_succ,ob_some,lzbox_eq,cells_agg,hv,hk];rw[stn (n:=16) newRow h1 hl rfl,ob_some,setRow];simp only;have k1:Frame NoF H (H++[IObj.row cs false]):=Frame.push _ _ _;have st1':=k1.get (fun h=>h) h.st;have bd1:=k1.get (fun h=>h) h.bd;have mp1:=k1.get (fun h=>h) h.mp;have i1:=k1.get (fun h=>h) hI;have old1:H0.length<=(H++[IObj.row cs false]).length/\∀i,i<H0.length->i≠s->i≠m->(H++[IObj.row cs false])[i]? =H0[i]? :=⟨Nat.le_trans h.old.1 k1.1,fun i a b d=>by rw[←h.old.2 i a b d];exact k1.2 i (by have:=h.old.1;omega) (fun h=>h)⟩;have hIl:I<H.length:=(ges hI).1;generalize H++[IObj.row cs false]=K at *;have e6:lbin .mul (.int .i64 k) (.int .i64 16)=some (.int .i64 (k*16)):=by rw[lbin_mul,wrap_i64 (by omega) (by omega)]
 have e7:lload1 K (.ptr p 1)=some (.map m):=ld1 bd1;rw[e6,ob_some,jn_eq,lbin_geq,ob_some,decide_eq_true (by omega),cnd_true];simp only[lchk_ptr,loff_ptr,ob_some,Nat.zero_add,e7];have hdel:∃j,es[j]? =some e/\ldelV K .int (.map m) (.int .i64 k)=some (.tuple [],K.set m (.map (es.eraseIdx j) c)):=by
  rcases ifind_int k 0 hc.keyI with⟨g1,g2⟩ | ⟨j,q,g1,g2,g3⟩
  ·exact absurd hk (g2 e he)
  ·have:q=e:=nodup_inj (f:=fun e:Ent=>e.1) hc.nodup (List.mem_of_getElem? g1) he (by rw[g2,hk]);subst this;refine⟨j,g1,?_⟩;unfold ldelV ldelete;simp only[mp1,isLS,if_true,g3,Option.bind_some,Nat.zero_add]
 obtain⟨j,hj,hdel⟩:=hdel;rw[hdel,ob_some];simp only;have hjl:=(ges hj).1;have hlen:(es.eraseIdx j).length+1=es.length:=by rw[List.length_eraseIdx,if_pos hjl];omega
 obtain⟨n1,n2,n3⟩:=h.ne;have km:Frame (fun i=>i=m) K (K.set m (.map (es.eraseIdx j) c)):=Frame.set _ _ rfl;have st2:=km.get (fun e=>n2 e.symm) st1';have bd2:=km.get (fun e=>n3 e.symm) bd1;have mp2:=setAt (o':=IObj.map (es.eraseIdx j) c) mp1;have hlt:=h.lt;have i2:=km.get (show ¬I=m by omega) i1;have e8:lload1 (K.set m (.map (es.eraseIdx j) c)) (.ptr s 1)=some (.int .i64 (IntKind.wrap .i64 (used - ((n0 - es.length:Nat):Int)))):=ld1 st2;rw[e8,ob_some,lbin_sub,ob_some,st1 st2 (by simp only[one_int]) (by simp),ob_some,wrap_sub1];have ks:Frame (fun i=>i=s) (K.set m (.map (es.eraseIdx j) c)) ((K.set m (.map (es.eraseIdx j) c)).set s (.row ([.int .i64 room,.int .i64 (IntKind.wrap .i64 (used - ((n0 - es.length:Nat):Int)))].set 1 (.int .i64 (IntKind.wrap .i64 (used - ((n0 - es.length:Nat):Int) - 1)))) false)):=Frame.set _ _ rfl;have hmemE:∀q∈es.eraseIdx j,q∈es:=fun q hq=>List.mem_of_mem_eraseIdx hq;have hsub:(es.eraseIdx j).Sublist es:=List.eraseIdx_sublist es j;refine Wp.ret ⟨rfl,es.eraseIdx j,hlen,⟨?_,ks.get (fun e=>n1 e.symm) bd2,ks.get n2 mp2,h.ne,h.lt,?_⟩,⟨fun q hq=>hc.key q (hmemE q hq),fun q hq=>hc.val q (hmemE q hq),fun q hq=>hc.id q (hmemE q hq),hc.nodup.sublist (hsub.map _),hc.idup.sublist (hsub.map _)⟩,fun q hq=>⟨hmemE q hq,?_⟩,?_⟩
 ·rw[setAt st2];simp only[List.set_cons_succ,List.set_cons_zero];rw[show used - ((n0 - es.length:Nat):Int) - 1=used - ((n0 - (es.eraseIdx j).length:Nat):Int) by omega]
 ·refine⟨by simpa using old1.1,fun i a b d=> ?_⟩;simp only;rw[List.getElem?_set_ne (fun e=>b e.symm),List.getElem?_set_ne (fun e=>d e.symm)];exact old1.2 i a b d
 ·intro e2;obtain⟨i,hi⟩:=List.mem_iff_getElem?.1 hq;have hne:∀a b:Nat,es[a]? =some q->es[b]? =some e->a=b:=by
   intro a b ha hb;have la:=(ges ha).1;have lb:=(ges hb).1;have:=(List.getElem_inj (xs:=es.map (·.2.2)) (h₀:=by simpa using la) (h₁:=by simpa using lb) hc.idup).1 (by
    simp only[List.getElem_map,(ges ha).2,(ges hb).2];exact e2)
   exact this
  rw[List.getElem?_eraseIdx]at hi;split at hi
  ·have:=hne _ _ hi hj;omega
  ·have:=hne _ _ hi hj;omega
 ·simp only;rw[ks.get (show ¬I=s by omega) i2,hI]
def cutL :LC:=.seq (.reg [⟨some 23,.nxt (.t 22),none⟩,⟨some 24,.ext (.t 23) 0,none⟩]) (.seq (.cond (.t 24) .skip (.exit 1)) (.block 2 BsCutXC1))
theorem cut_loop {H0:Heap}{s p m n0 c:Nat}{room used sz:Int}{kk:IX->Sg->Heap->Prop}(hQ:∀E H,lk E 0=.ptr s 0->lk E 1=.ptr p 0->lk E 7=.int .i64 0->lk E 22=.ptr H0.length 0->CutH H0 H s p m room used sz n0 c []->kk (.exit 1) E H) :
  ∀(n:Nat) (E:Sg) (H:Heap) (es:List Ent) (seen:List Nat),es.length<n->es.length<=n0->CutH H0 H s p m room used sz n0 c es->H[H0.length]? =some (.iter (some m) c seen c)->ChOk es c->(∀e∈es,e.2.2 ∉ seen) ->
   lk E 0=.ptr s 0->lk E 1=.ptr p 0->lk E 7=.int .i64 0->lk E 22=.ptr H0.length 0->itW (lxW cal O N cutL) n E H kk:=by
 intro n
 induction n with
 | zero=>intro E H es seen hn;omega
 | succ n ih =>
  intro E H es seen hn hn0 hC hI hc hs h0 h1 h7 h22;obtain⟨l,hl,hout⟩:=cut_nxt hI hC.mp hc hs;simp only[itW];unfold cutL;simp only[lxW,lopsW];refine⟨l,by unfold lopW;simp only[lwanted,la,if_true,h22];exact hl,fun r hr=> ?_⟩;rcases hout r hr with⟨rfl,rfl⟩ | ⟨en,he,rfl⟩
  ·refine⟨[(.bool false,H)],rfl,fun r hr=> ?_⟩;rw[List.mem_singleton]at hr;subst hr;exact hQ _ _ h0 h1 h7 h22 hC
  ·refine⟨[(.bool true,H.set H0.length (.iter (some m) c (seen++[en.2.2]) c))],rfl,fun r hr=> ?_⟩;rw[List.mem_singleton]at hr;subst hr;simp only;have hlt:=hC.lt;have k1:Frame (fun i=>i=H0.length) H (H.set H0.length (.iter (some m) c (seen++[en.2.2]) c)):=Frame.set _ _ rfl;have hI1:=setAt (o':=IObj.iter (some m) c (seen++[en.2.2]) c) hI;have hC1:CutH H0 (H.set H0.length (.iter (some m) c (seen++[en.2.2]) c)) s p m room used sz n0 c es:=⟨k1.get (show ¬s=H0.length by omega) hC.st,k1.get (show ¬p=H0.length by omega) hC.bd,k1.get (show ¬m=H0.length by omega) hC.mp,hC.ne,hC.lt,Nat.le_trans hC.old.1 k1.1,fun i a b d=>by rw[←hC.old.2 i a b d];exact k1.2 i (by have:=hC.old.1;omega) (by omega)⟩;generalize H.set H0.length (.iter (some m) c (seen++[en.2.2]) c)=H1 at *;show lxW cal O N BsCutXC1 _ H1 _;refine lxK_W (k:=cutK) (Q:=fun r=>r.1=.tuple [.ptr s 0,.ptr p 0,.int .i64 0,.ptr H0.length 0]/\∃es',es'.length+1=es.length/\CutH H0 r.2 s p m room used sz n0 c es'/\ChOk es' c/\(∀q∈es',q∈es/\q.2.2≠en.2.2)/\r.2[H0.length]? =H1[H0.length]?) ?_ ?_
   ·rw[BsCutXC1Eq cal O N (k:=cutK) gFour (fun _ _=>rfl)];have a0:∀v w,lk ((24,v)::(23,w)::E) 0=lk E 0:=fun _ _=>rfl;have a1:∀v w,lk ((24,v)::(23,w)::E) 1=lk E 1:=fun _ _=>rfl;have a7:∀v w,lk ((24,v)::(23,w)::E) 7=lk E 7:=fun _ _=>rfl;have a22:∀v w,lk ((24,v)::(23,w)::E) 22=lk E 22:=fun _ _=>rfl;simp only[pput,a0,a1,a7,a22,h0,h1,h7,h22];exact cut_b hC1 hn0 hI1 rfl hc he
   ·rintro x σ' H' r hx ⟨hr1,es',g1,g2,g3,g4,g5⟩
    cases x with
    | exit id=>cases hx
    | ret =>
     rw[cutK_ret hx]at hr1;simp at hr1
    | normal =>
     rw[cutK_nor hx]at hr1 g2 g5;simp only[IV.tuple.injEq,List.cons.injEq,and_true]at hr1;obtain⟨b0,b1,b7,b22⟩:=hr1;simp only at g2 g5 ⊢;refine ih σ' H' es' (seen++[en.2.2]) (by omega) (by omega) g2 (g5.trans hI1) g3 (fun q hq=> ?_) b0 b1 b7 b22;obtain⟨z1,z2⟩:=g4 q hq;intro hm;rcases List.mem_append.1 hm with hm | hm
     ·exact hs q z1 hm
     ·exact z2 (List.mem_singleton.1 hm)
theorem cut_w {H:Heap}{s p m c:Nat}{room used sz:Int}{es:List Ent}(hN:es.length<N)(hst:H[s]? =some (.row [.int .i64 room,.int .i64 used] false))(hwu:IntKind.wrap .i64 used=used)(hbd:H[p]? =some (.row [.int .i64 sz,.map m] false))(hmp:H[m]? =some (.map es c))(hne:s≠p/\m≠s/\m≠p)(hc:ChOk es c) :
  lrunW cal O N BsCut [.ptr s 0,.ptr p 0,.int .i64 0] H fun r K=>r=.int .i64 0/\∃K',CutH H K' s p m room used sz es.length c []/\K=K'.set p (.row [.int .i64 0,.map m] false):=by
 unfold lrunW;have hl1:=(ges hst).1;have hl2:=(ges hbd).1;have hl3:=(ges hmp).1;show lxW cal O N (lappN 2 BsCutXC0 (.seq (.seq (.reg [⟨some 18,.mv (.t 1),none⟩,⟨some 19,.chk (.t 18),none⟩,⟨some 20,.off (.t 19) 1,none⟩,⟨some 21,.ld1 (.t 20),none⟩,⟨some 22,.rng (.t 21),none⟩]) (.block 1 (.loop cutL))) BsCutXC2)) _ H _;refine lappN_W ?_;show lxW cal O N BsCutXC0 _ H _;refine lxK_W (k:=cutK) (Q:=fun r=>∃v,r=(.tuple [.ptr s 0,.ptr p 0,.int .i64 0,v],H)) ?_ ?_
 ·rw[BsCutXC0Eq cal O N (k:=cutK) gFour (fun _ _=>rfl) (fun _ _=>rfl)];unfold BsCutXC0S;have e0:lk (initFrom 0 [IV.ptr s 0,.ptr p 0,.int .i64 0]) 2=.int .i64 0:=rfl;have e1:lbin .lss (.int .i64 0) (.int .i64 0)=some (.bool false):=rfl;have e2:lbin .gtr (.int .i64 0) (.int .i64 65536)=some (.bool false):=rfl;rw[e0,e1,ob_some,cnd_false,e2,ob_some,cnd_false];exact⟨_,rfl,_,rfl⟩
 ·rintro x E K r hx ⟨v,rfl⟩
  cases x with
  | exit id=>cases hx
  | ret =>
   have:=cutK_ret hx;simp at this
  | normal =>
   have hr:=cutK_nor hx;simp only[Prod.mk.injEq,IV.tuple.injEq,List.cons.injEq,and_true]at hr;obtain⟨⟨b0,b1,b7,b22⟩,rfl⟩:=hr;simp only[lxW,lopsW];refine⟨[(lk E 1,H)],rfl,fun r hr=> ?_⟩;rw[List.mem_singleton]at hr;subst hr;refine⟨[(.ptr p 0,H)],lopW_q rfl (by show lchk (lk E 1)=_;rw[←b1];rfl),fun r hr=> ?_⟩;rw[List.mem_singleton]at hr;subst hr;refine⟨[(.ptr p 1,H)],rfl,fun r hr=> ?_⟩;rw[List.mem_singleton]at hr;subst hr;refine⟨[(.map m,H)],lopW_q rfl (ld1 hbd),fun r hr=> ?_⟩;rw[List.mem_singleton]at hr;subst hr;have hrng:stRng H (.map m)=some (.ptr H.length 0,H++[.iter (some m) c [] c]):=by simp only[stRng,hmp]
   refine⟨[(.ptr H.length 0,H++[.iter (some m) c [] c])],?_,fun r hr=> ?_⟩
   ·show((stRng H (.map m)).bind fun r=>some [r])=_;rw[hrng];rfl
   rw[List.mem_singleton]at hr;subst hr;simp only[pput];have k1:Frame NoF H (H++[IObj.iter (some m) c [] c]):=Frame.push _ _ _;have hC0:CutH H (H++[.iter (some m) c [] c]) s p m room used sz es.length c es:=⟨by rw[k1.get (fun h=>h) hst,Nat.sub_self];simp only[Int.natCast_zero,Int.sub_zero,hwu],k1.get (fun h=>h) hbd,k1.get (fun h=>h) hmp,hne,⟨hl1,hl2,hl3⟩,k1.1,fun i a _ _=>k1.2 i a (fun h=>h)⟩;refine cut_loop (fun σ' H' c0 c1 c7 c22 hC'=> ?_) N _ _ es [] hN (Nat.le_refl _) hC0 newRow hc (fun _ _ h=>by cases h) b0.symm b1.symm b7.symm rfl;show lxW cal O N BsCutXC2 σ' H' _;refine lxK_W (k:=fun x E H=>match x with | .ret=>resK cutRs [] E H | _=>none) (Q:=fun r=>r.1=.tuple [.int .i64 0,.ptr s 0,.ptr p 0,.int .i64 0,.ptr H.length 0]/\r.2=H'.set p (.row [.int .i64 0,.map m] false)) ?_ ?_
   ·rw[BsCutXC2Eq cal O N (k:=fun x E H=>match x with | .ret=>resK cutRs [] E H | _=>none) (fun _ _=>rfl)];rw[c0,c1,c7,c22];unfold BsCutXC2S;rw[lchk_ptr,ob_some,loff_ptr,ob_some,Nat.zero_add,st1 hC'.bd (by simp only[one_int]) (by simp),ob_some];exact⟨_,rfl,rfl,rfl⟩
   ·rintro x σ2 H2 r hx ⟨hr1,hr2⟩
    cases x with
    | exit id=>cases hx
    | normal=>cases hx
    | ret =>
     have:r=(.tuple [lk σ2 6,lk σ2 0,lk σ2 1,lk σ2 7,lk σ2 22],H2):=cutK_ret hx;rw[this]at hr1 hr2;simp only[IV.tuple.injEq,List.cons.injEq]at hr1 hr2;exact⟨[lk σ2 6],rfl,hr1.1,H',hC',hr2⟩
end
theorem keysI_at :∀{es:List Ent},keysI es=true->∀e∈es,∃k:Int,e.1=.int .i64 k/\0<=k/\k<=65536
 | [],_,e,he=>by cases he
 | (.int .i64 k,v,d)::es,h,e,he=>by
  simp only[keysI,Bool.and_eq_true,decide_eq_true_eq]at h;rcases List.mem_cons.1 he with rfl | he
  ·exact⟨k,rfl,h.1⟩
  ·exact keysI_at h.2 e he
theorem intIn_not :∀{es:List Ent} {k:Int},intIn k es=false-> .int .i64 k ∉ es.map (·.1)
 | [],_,_=>by simp
 | (x,v,d)::es,k,h=>by
  simp only[List.map_cons,List.mem_cons,not_or];by_cases hx:∃j,x=.int .i64 j
  ·obtain⟨j,rfl⟩:=hx;simp only[intIn,Bool.or_eq_false_iff,decide_eq_false_iff_not]at h;exact⟨fun e=>h.1 (by injection e with _ e;exact e.symm),intIn_not h.2⟩
  ·refine⟨fun e=>hx ⟨k,e.symm⟩,intIn_not (es:=es) ?_⟩
   cases x with
   | int kd j =>
    cases kd with
    | i64=>exact absurd ⟨j,rfl⟩ hx
    | _=>exact h
   | _=>exact h
theorem keysD_at :∀{es:List Ent},keysD es=true->(es.map (·.1)).Nodup
 | [],_=>List.nodup_nil
 | (.int .i64 k,v,d)::es,h=>by
  simp only[keysD,Bool.and_eq_true,Bool.not_eq_true']at h;simp only[List.map_cons,List.nodup_cons];exact⟨intIn_not h.1,keysD_at h.2⟩
theorem nodN_nd :∀{l:List Nat},nodN l=true->l.Nodup
 | [],_=>List.nodup_nil
 | i::l,h=>by
  simp only[nodN,Bool.and_eq_true,List.all_eq_true,Bool.not_eq_true']at h;simp only[List.nodup_cons];exact⟨(fun hm=>by have:=h.1 i hm;rw[Nat.beq_refl]at this;exact absurd this (by simp)),nodN_nd h.2⟩
theorem sound_cutT {P:Program}{O:Oracle}(hφ:Sound P O)(hm:P.follows .mixedOrders=true){f:FuncId}(hlo:LoF P f BsCut)(args:List IV)(H:Heap)(r:IV)(H':Heap)(e:cutT args H=some (r,H')):SimCall P f args H r H':=by
 unfold cutT at e;split at e
 ·rename_i s p;split at e
  ·rename_i room used sz m hst hbd;split at e
   ·rename_i es c hmp;split at e
    ·rename_i hc;simp only[Bool.and_eq_true,Bool.not_eq_true',decide_eq_true_eq,List.all_eq_true]at hc;obtain⟨c0,c1,c2,c3,c4,c5,c6,c7,c8⟩:=hc
     cases e
     have ne:∀{a b:Nat},Nat.beq a b=false->a≠b:=fun h e=>by rw[e,Nat.beq_refl]at h;cases h
     have hval:∀e∈es,∃cs,e.2.1=.agg cs/\cs.length=16/\cs.all IV.one=true:=by
      intro e he;have:=c4 e he;split at this
      ·rename_i cs hv;simp only[Bool.and_eq_true]at this;exact⟨cs,hv,Nat.eq_of_beq_eq_true this.1,this.2⟩
      ·cases this
     have hid:∀e∈es,e.2.2<c:=by
      intro e he;have:=c3 e he;have h2:e.2.2+1<=c:=by simpa[Nat.blt]using this
      omega
     have hC:ChOk es c:=⟨keysI_at c1,hval,hid,keysD_at c2,nodN_nd c5⟩;obtain⟨⟨fn,q1,q2⟩,_⟩:=hlo;have hW:=sim_W hφ (fun _ h=>h) hm q1 q2 (nble rfl) (cut_w (cal:=callable P) (O:=O) (N:=es.length+1) (by omega) hst c0 hbd hmp ⟨ne c6,ne c7,ne c8⟩ hC);have l1:=(ges hst).1;have l2:=(ges hbd).1;have l3:=(ges hmp).1;refine hW.oneOf (by simp) (fun r H1 hq=> ?_) rfl;obtain⟨rfl,K',hK,rfl⟩:=hq;refine⟨rfl,fun i o hi=> ?_⟩;have hlK:p<K'.length:=(ges hK.bd).1;by_cases e1:i=p
     ·subst e1;rw[List.getElem?_set_self (by simpa using l2)]at hi
      cases hi
      exact .inr ⟨by simp[inBO,inBs,inB];exact l3,by rw[List.getElem?_set_self hlK]⟩
     ·rw[List.getElem?_set_ne (fun h=>e1 h.symm)]at hi;rw[List.getElem?_set_ne (fun h=>e1 h.symm)];by_cases e2:i=m
      ·subst e2;rw[List.getElem?_set_self (by simpa using l3)]at hi
       cases hi
       exact .inr ⟨rfl,hK.mp⟩
      ·rw[List.getElem?_set_ne (fun h=>e2 h.symm)]at hi;by_cases e3:i=s
       ·subst e3;rw[List.getElem?_set_self l1]at hi
        cases hi
        exact .inr ⟨rfl,by rw[hK.st];simp⟩
       ·rw[List.getElem?_set_ne (fun h=>e3 h.symm)]at hi;have hil:=(ges hi).1;exact .inl ⟨hil,hi,by rw[hK.old.2 i hil e3 e2];exact hi⟩
    ·cases e
   ·cases e
  ·cases e
 ·cases e
end Go.Shade
namespace Go.Proofs.YtmkjmfegaalcoaaGreat
open Go.Shade
theorem hm :Tryz.prog.follows .mixedOrders=true:=by kernel_rfl
noncomputable def lf (fn:Func):LFun:=(lowF Tryz.prog fn).getD ⟨.skip,[],0⟩
theorem lo42 :LoF Tryz.prog 42 (Go.Shade.branchNew 88 89 90 91):=⟨⟨Tryz.f42,Tryz.func42,by kernel_rfl⟩,by kernel_rfl⟩
theorem lo62 :LoF Tryz.prog 62 (lf Tryz.f62):=⟨⟨_,Tryz.func62,by kernel_rfl⟩,by kernel_rfl⟩
theorem e62 (cal:FuncId->Bool)(O:Oracle)(N:Nat)(v0:IV)(H:Heap):lrunK cal O N (lf Tryz.f62) [v0] H=Go.Shade.QqLenS cal O N 117 v0 H:=by kernel_rfl
theorem lo88 :LoF Tryz.prog 88 (lf Tryz.f88):=⟨⟨_,Tryz.func88,by kernel_rfl⟩,by kernel_rfl⟩
theorem e88 (cal:FuncId->Bool)(O:Oracle)(N:Nat)(v0:IV)(H:Heap):lrunK cal O N (lf Tryz.f88) [v0] H=Go.Shade.blockNewS cal O N v0 H:=by kernel_rfl
theorem lo89 :LoF Tryz.prog 89 (lf Tryz.f89):=⟨⟨_,Tryz.func89,by kernel_rfl⟩,by kernel_rfl⟩
theorem e89 (cal:FuncId->Bool)(O:Oracle)(N:Nat)(H:Heap):lrunK cal O N (lf Tryz.f89) [] H=Go.Shade.queueNewS cal O N H:=by kernel_rfl
theorem lo90 :LoF Tryz.prog 90 (lf Tryz.f90):=⟨⟨_,Tryz.func90,by kernel_rfl⟩,by kernel_rfl⟩
theorem e90 (cal:FuncId->Bool)(O:Oracle)(N:Nat)(v0 v1 v2:IV)(H:Heap):lrunK cal O N (lf Tryz.f90) [v0,v1,v2] H=Go.Shade.QqPushS cal O N 133 v0 v1 v2 H:=by kernel_rfl
theorem lo91 :LoF Tryz.prog 91 (lf Tryz.f91):=⟨⟨_,Tryz.func91,by kernel_rfl⟩,by kernel_rfl⟩
theorem e91 (cal:FuncId->Bool)(O:Oracle)(N:Nat)(H:Heap):lrunK cal O N (lf Tryz.f91) [] H=Go.Shade.dentsNewS cal O N H:=by kernel_rfl
theorem lo96 :LoF Tryz.prog 96 (lf Tryz.f96):=⟨⟨_,Tryz.func96,by kernel_rfl⟩,by kernel_rfl⟩
theorem e96 (cal:FuncId->Bool)(O:Oracle)(N:Nat)(v0:IV)(H:Heap):lrunK cal O N (lf Tryz.f96) [v0] H=Go.Shade.QqPopS cal O N 62 135 v0 H:=by kernel_rfl
theorem lo117 :LoF Tryz.prog 117 (lf Tryz.f117):=⟨⟨_,Tryz.func117,by kernel_rfl⟩,by kernel_rfl⟩
theorem e117 (cal:FuncId->Bool)(O:Oracle)(N:Nat)(v0:IV)(H:Heap):lrunK cal O N (lf Tryz.f117) [v0] H=Go.Shade.QisLenS cal O N v0 H:=by kernel_rfl
theorem lo133 :LoF Tryz.prog 133 (lf Tryz.f133):=⟨⟨_,Tryz.func133,by kernel_rfl⟩,by kernel_rfl⟩
theorem e133 (cal:FuncId->Bool)(O:Oracle)(N:Nat)(v0 v1:IV)(H:Heap):lrunK cal O N (lf Tryz.f133) [v0,v1] H=Go.Shade.cHpPushS cal O N 159 v0 v1 H:=by kernel_rfl
theorem lo135 :LoF Tryz.prog 135 (lf Tryz.f135):=⟨⟨_,Tryz.func135,by kernel_rfl⟩,by kernel_rfl⟩
theorem e135 (cal:FuncId->Bool)(O:Oracle)(N:Nat)(v0:IV)(H:Heap):lrunK cal O N (lf Tryz.f135) [v0] H=Go.Shade.cHpPopS cal O N 163 v0 H:=by kernel_rfl
theorem lo159 :LoF Tryz.prog 159 Go.Shade.cHpUp:=⟨⟨Tryz.f159,Tryz.func159,by kernel_rfl⟩,by kernel_rfl⟩
theorem lo163 :LoF Tryz.prog 163 Go.Shade.cHpDown:=⟨⟨Tryz.f163,Tryz.func163,by kernel_rfl⟩,by kernel_rfl⟩
theorem lo165 :LoF Tryz.prog 165 (lf Tryz.f165):=⟨⟨_,Tryz.func165,by kernel_rfl⟩,by kernel_rfl⟩
theorem e165 (cal:FuncId->Bool)(O:Oracle)(N:Nat)(v0 v1:IV)(H:Heap):lrunK cal O N (lf Tryz.f165) [v0,v1] H=Go.Shade.sRorS cal O N 175 v0 v1 H:=by kernel_rfl
theorem lo175 :LoF Tryz.prog 175 (lf Tryz.f175):=⟨⟨_,Tryz.func175,by kernel_rfl⟩,by kernel_rfl⟩
theorem e175 (cal:FuncId->Bool)(O:Oracle)(N:Nat)(v0 v1:IV)(H:Heap):lrunK cal O N (lf Tryz.f175) [v0,v1] H=Go.Shade.sRolS cal O N 180 v0 v1 H:=by kernel_rfl
theorem lo180 :LoF Tryz.prog 180 Go.Shade.sRev:=⟨⟨Tryz.f180,Tryz.func180,by kernel_rfl⟩,by kernel_rfl⟩
theorem lo203 :LoF Tryz.prog 203 (lf Tryz.f203):=⟨⟨_,Tryz.func203,by kernel_rfl⟩,by kernel_rfl⟩
theorem e203 (cal:FuncId->Bool)(O:Oracle)(N:Nat)(v0 v1 v2:IV)(H:Heap):lrunK cal O N (lf Tryz.f203) [v0,v1,v2] H=Go.Shade.QisLessS cal O N 205 v0 v1 v2 H:=by kernel_rfl
theorem lo204 :LoF Tryz.prog 204 (lf Tryz.f204):=⟨⟨_,Tryz.func204,by kernel_rfl⟩,by kernel_rfl⟩
theorem e204 (cal:FuncId->Bool)(O:Oracle)(N:Nat)(v0 v1 v2:IV)(H:Heap):lrunK cal O N (lf Tryz.f204) [v0,v1,v2] H=Go.Shade.QisSwapS cal O N v0 v1 v2 H:=by kernel_rfl
theorem lo205 :LoF Tryz.prog 205 (lf Tryz.f205):=⟨⟨_,Tryz.func205,by kernel_rfl⟩,by kernel_rfl⟩
theorem e205 (cal:FuncId->Bool)(O:Oracle)(N:Nat)(v0 v1:IV)(H:Heap):lrunK cal O N (lf Tryz.f205) [v0,v1] H=Go.Shade.QiAheadS cal O N v0 v1 H:=by kernel_rfl
theorem lo206 :LoF Tryz.prog 206 (lf Tryz.f206):=⟨⟨_,Tryz.func206,by kernel_rfl⟩,by kernel_rfl⟩
theorem e206 (cal:FuncId->Bool)(O:Oracle)(N:Nat)(v0:IV)(H:Heap):lrunK cal O N (lf Tryz.f206) [v0] H=Go.Shade.QisPopS cal O N v0 H:=by kernel_rfl
theorem lo207 :LoF Tryz.prog 207 (lf Tryz.f207):=⟨⟨_,Tryz.func207,by kernel_rfl⟩,by kernel_rfl⟩
theorem e207 (cal:FuncId->Bool)(O:Oracle)(N:Nat)(v0 v1:IV)(H:Heap):lrunK cal O N (lf Tryz.f207) [v0,v1] H=Go.Shade.QisPushS cal O N v0 v1 H:=by kernel_rfl
theorem lo137 :LoF Tryz.prog 137 (insL 165):=⟨⟨Tryz.f137,Tryz.func137,by kernel_rfl⟩,by kernel_rfl⟩
theorem lo176 :LoF Tryz.prog 176 BsCut:=⟨⟨Tryz.f176,Tryz.func176,by kernel_rfl⟩,by kernel_rfl⟩
end Go.Proofs.YtmkjmfegaalcoaaGreat
namespace Go.Proofs.YtmkjmfegaalcoaaGreat
open Go.Shade
def inT (f:Nat):Bool:=Nat.beq f 137||(Nat.beq f 176||(Nat.beq f 23||(Nat.beq f 78||Nat.beq f 32)))
structure TbOk (T:Table):Prop where
 non:∀f,inT f=false->T f=none
 ins:T 137=some insT
 cut:T 176=some cutT
section
variable {T : Table}
theorem okILen (hT:TbOk T):ILenOk (den Tryz.prog T) 117:=by unfold ILenOk;intros;exact denLo (hT.non 117 rfl) lo117 0 (nble (by kernel_rfl)) (by rw[e117];exact ilen_s ‹_›)
theorem okAhead (hT:TbOk T):AheadOk (den Tryz.prog T) 205:=by unfold AheadOk;intros;exact denWp (hT.non 205 rfl) lo205 0 (nble (by kernel_rfl)) (by rw[e205];exact ahead_s _ _ _)
theorem okLess (hT:TbOk T):LessOk (den Tryz.prog T) 203:=by unfold LessOk;intros;exact denWp (hT.non 203 rfl) lo203 0 (nble (by kernel_rfl)) (by rw[e203];exact less_s (okAhead hT) ‹_› ‹_› ‹_›)
theorem okSwap (hT:TbOk T):SwapOk (den Tryz.prog T) 204:=by unfold SwapOk;intros;exact denWp (hT.non 204 rfl) lo204 0 (nble (by kernel_rfl)) (by rw[e204];exact swap_s ‹_› ‹_› ‹_›)
theorem okUp (hT:TbOk T):UpOk (den Tryz.prog T) 196 159:=fun P H q l k j hQ hj hb=>denWp (hT.non 159 rfl) lo159 l.length (nble rfl) (by rw[Go.Shade.cHpUpEq];exact up_s (okLess hT) (okSwap hT) hQ hj hb)
theorem okDown (hT:TbOk T):DownOk (den Tryz.prog T) 196 163:=fun P H q l k i n hQ h1 h2 hb=>denWp (hT.non 163 rfl) lo163 (l.length+1) (nble rfl) (by rw[Go.Shade.cHpDownEq];exact down_s (okLess hT) (okSwap hT) hQ h1 h2 hb)
theorem okIPush (hT:TbOk T):IPushOk (den Tryz.prog T) 198 207:=by unfold IPushOk;intros;exact denWp (hT.non 207 rfl) lo207 0 (nble (by kernel_rfl)) (by rw[e207];exact ipush_s ‹_› ‹_›)
theorem okHPush (hT:TbOk T):HPushOk (den Tryz.prog T) 196 198 133:=by unfold HPushOk;intros;exact denWp (hT.non 133 rfl) lo133 0 (nble (by kernel_rfl)) (by rw[e133];exact hpush_s (okIPush hT) (okILen hT) (okUp hT) ‹_› ‹_›)
theorem okQPush (hT:TbOk T):QPushOk (den Tryz.prog T) 90:=by unfold QPushOk;intros;exact denWp (hT.non 90 rfl) lo90 0 (nble (by kernel_rfl)) (by rw[e90];exact qpush_s (okHPush hT) ‹_› ‹_›)
theorem okQNew (hT:TbOk T):QNewOk (den Tryz.prog T) 89:=by unfold QNewOk;intros;exact denWp (hT.non 89 rfl) lo89 0 (nble (by kernel_rfl)) (by rw[e89];exact qnew_s _)
theorem okIPop (hT:TbOk T):IPopOk (den Tryz.prog T) 198 206:=by unfold IPopOk;intros;exact denWp (hT.non 206 rfl) lo206 0 (nble (by kernel_rfl)) (by rw[e206];exact ipop_s ‹_› ‹_›)
theorem okHPop (hT:TbOk T):HPopOk (den Tryz.prog T) 196 198 135:=by unfold HPopOk;intros;exact denWp (hT.non 135 rfl) lo135 0 (nble (by kernel_rfl)) (by rw[e135];exact hpop_s (okIPop hT) (okILen hT) (okSwap hT) (okDown hT) ‹_› ‹_› ‹_›)
theorem okQLen (hT:TbOk T):QLenOk (den Tryz.prog T) 62:=by unfold QLenOk;intros;exact denLo (hT.non 62 rfl) lo62 0 (nble (by kernel_rfl)) (by rw[e62];exact qlen_s (okILen hT) ‹_›)
theorem okQPop (hT:TbOk T):QPopOk (den Tryz.prog T) 96:=by unfold QPopOk;intros;exact denWp (hT.non 96 rfl) lo96 0 (nble (by kernel_rfl)) (by rw[e96];exact qpop_s (okQLen hT) (okHPop hT) ‹_› ‹_›)
theorem okSNew (hT:TbOk T):SNewOk (den Tryz.prog T) 88:=fun H room=>by
 have h0:=snew_s H room (cal:=callable Tryz.prog) (O:=(den Tryz.prog T)) (N:=0);by_cases h:0<=room/\room<=65536
 ·rw[if_pos h]at h0 ⊢;exact denLo (hT.non 88 rfl) lo88 0 (nble (by kernel_rfl)) (by rw[e88];exact h0)
 ·rw[if_neg h]at h0 ⊢;exact denLo (hT.non 88 rfl) lo88 0 (nble (by kernel_rfl)) (by rw[e88];exact h0)
theorem okDNew (hT:TbOk T):DNewOk (den Tryz.prog T) 91:=by unfold DNewOk;intros;exact denLo (hT.non 91 rfl) lo91 0 (nble (by kernel_rfl)) (by rw[e91];exact dnew_s _)
theorem okBNew (hT:TbOk T):BNewOk (den Tryz.prog T) 42:=by unfold BNewOk;intros;exact denWp (hT.non 42 rfl) lo42 200 (nble rfl) (by rw[Go.Shade.branchNewEq];exact bnew_s (by omega) (okSNew hT) (okQNew hT) (okQPush hT) (okDNew hT) _ _)
end
end Go.Proofs.YtmkjmfegaalcoaaGreat
namespace Go.Shade
def newRows (B:Nat)(room:Int):Heap:=[.row [.int .i64 room,.int .i64 0] false,.row [.slice (B+2) 0 199 199 false 3,.int .i64 199] false,.row (itcs (upQ 199)) false,.row (brC (.ptr B 0) (rootC (B+5)) (.ptr (B+1) 0)) false,.row [.nilSlice] false,.row (nodC (B+4)) false]
def bnT (args:List IV)(H:Heap):Option (IV×Heap):=match args with
 | [.int .i64 room]=>if 0<=room/\room<=65536 then some (.ptr (H.length+3) 0,H++newRows H.length room)else none
 | _=>none
theorem rens_itcs (f:Nat->Nat):∀l:List It,rens f (itcs l)=itcs l
 | []=>rfl
 | x::l=>by simp only[itcs,rens,ren,rens_itcs f l]
theorem inBs_itcs (n:Nat):∀l:List It,inBs n (itcs l)=true
 | []=>rfl
 | x::l=>by simp only[itcs,inBs,inB,inBs_itcs n l,Bool.and_self]
theorem rens_append (f:Nat->Nat):∀a b:List IV,rens f (a++b)=rens f a++rens f b
 | [],b=>rfl
 | x::a,b=>by simp only[List.cons_append,rens,rens_append f a b]
theorem inBs_append (n:Nat):∀a b:List IV,inBs n (a++b)=(inBs n a&&inBs n b)
 | [],b=>by simp[inBs]
 | x::a,b=>by simp only[List.cons_append,inBs,inBs_append n a b,Bool.and_assoc]
theorem rens_nils (f:Nat->Nat):∀k,rens f (List.replicate k .nilPtr)=List.replicate k .nilPtr
 | 0=>rfl
 | k+1=>by simp only[List.replicate_succ,rens,ren,rens_nils f k]
theorem inBs_nils (n:Nat):∀k,inBs n (List.replicate k .nilPtr)=true
 | 0=>rfl
 | k+1=>by simp only[List.replicate_succ,inBs,inB,inBs_nils n k,Bool.and_self]
def bnG (h s q r b d x i:Nat):Nat:=if i<h then i else if i=h then s else if i=h+1 then q else if i=h+2 then r else if i=h+3 then b else if i=h+4 then d else x
theorem bnG_cases (h s q r b d x i:Nat)(hi:i<h+6):(i<h/\bnG h s q r b d x i=i)∨(i=h/\bnG h s q r b d x i=s)∨(i=h+1/\bnG h s q r b d x i=q)∨(i=h+2/\bnG h s q r b d x i=r)∨(i=h+3/\bnG h s q r b d x i=b)∨(i=h+4/\bnG h s q r b d x i=d)∨(i=h+5/\bnG h s q r b d x i=x):=by
 unfold bnG;by_cases e0:i<h
 ·rw[if_pos e0];exact .inl ⟨e0,rfl⟩
 ·rw[if_neg e0];by_cases e1:i=h
  ·rw[if_pos e1];exact .inr (.inl ⟨e1,rfl⟩)
  ·rw[if_neg e1];by_cases e2:i=h+1
   ·rw[if_pos e2];exact .inr (.inr (.inl ⟨e2,rfl⟩))
   ·rw[if_neg e2];by_cases e3:i=h+2
    ·rw[if_pos e3];exact .inr (.inr (.inr (.inl ⟨e3,rfl⟩)))
    ·rw[if_neg e3];by_cases e4:i=h+3
     ·rw[if_pos e4];exact .inr (.inr (.inr (.inr (.inl ⟨e4,rfl⟩))))
     ·rw[if_neg e4];by_cases e5:i=h+4
      ·rw[if_pos e5];exact .inr (.inr (.inr (.inr (.inr (.inl ⟨e5,rfl⟩)))))
      ·rw[if_neg e5];exact .inr (.inr (.inr (.inr (.inr (.inr ⟨by omega,rfl⟩)))))
theorem bnG_inj {h s q r b d x:Nat}(o:h<=s/\s<b/\h<=q/\s<q/\q<b/\b<d/\d<x/\b<r/\r<d){i j:Nat}(hi:i<h+6)(hj:j<h+6)(hne:i≠j):bnG h s q r b d x i≠bnG h s q r b d x j:=by
 have a:=bnG_cases h s q r b d x i hi;have c:=bnG_cases h s q r b d x j hj;generalize bnG h s q r b d x i=u at *;generalize bnG h s q r b d x j=v at *;omega
theorem sound_bnT {P:Program}{O:Oracle}(hφ:Sound P O){f:FuncId}(hb:BNewOk O f)(args:List IV)(H:Heap)(r:IV)(H':Heap)(e:bnT args H=some (r,H')):SimCall P f args H r H':=by
 unfold bnT at e;split at e
 ·rename_i room;split at e
  ·rename_i h0
   cases e
   obtain⟨⟨r,H1⟩,h1,h2,h3⟩:=hb H room;rw[if_pos h0]at h3;simp only at h3 h2;obtain⟨b,rfl,⟨s,q,d,x,Q,a1,a2,a3,a4,a5,a6,b1,b2,b3,b4,b5,b6,b7,b8⟩⟩:=h3;have hs:=hφ _ _ _ _ _ h1;obtain⟨sv,k,t1,t2⟩:=a6;obtain⟨_,c2,sv',c3,c4⟩:=a5;rw[c3]at t1;cases t1
   rcases c4 with⟨rfl,e⟩ | ⟨r,rest,ex,rfl,c5,c6⟩
   ·have:=congrArg List.length e;rw[upQ_length]at this;cases this
   ·rcases t2 with e | ⟨r',n',e⟩
    ·cases e
    ·injection e with _ _ e1 e2 e3 _
     rw[upQ_length]at e1 e2;have hr:rest=[]:=List.length_eq_zero_iff.1 (by omega);subst hr e3;rw[List.append_nil]at c6;rw[upQ_length]at c3;have hrq:b<r/\r<d:=by rcases b8 r c5.1 with h | h;exact absurd h c5.2;exact h
     have gc:=fun i hi=>bnG_cases H.length s q r b d x i hi;have gj:=fun i j hi hj hne=>bnG_inj (h:=H.length) (s:=s) (q:=q) (r:=r) (b:=b) (d:=d) (x:=x) ⟨b1,b2,b3,b4,b5,b6,b7,hrq⟩ (i:=i) (j:=j) hi hj hne;have g0:∀i,i<H.length->bnG H.length s q r b d x i=i:=fun i hi=>if_pos hi;generalize bnG H.length s q r b d x=g at *;have g1:g H.length=s:=by have:=gc H.length (by omega);omega
     have g2:g (H.length+1)=q:=by have:=gc (H.length+1) (by omega);omega
     have g3:g (H.length+2)=r:=by have:=gc (H.length+2) (by omega);omega
     have g4:g (H.length+3)=b:=by have:=gc (H.length+3) (by omega);omega
     have g5:g (H.length+4)=d:=by have:=gc (H.length+4) (by omega);omega
     have g6:g (H.length+5)=x:=by have:=gc (H.length+5) (by omega);omega
     have hlen:(H++newRows H.length room).length=H.length+6:=by rw[List.length_append];rfl
     refine hs.clean g g0 (by omega) (fun i o hi=> ?_) (fun i j hi hj hne=> ?_) (by rw[show ren g (.ptr (H.length+3) 0)=.ptr (g (H.length+3)) 0 from rfl,g4]) (by rw[hlen];simp[inB])
     ·rw[hlen];by_cases hlt:i<H.length
      ·rw[List.getElem?_append_left hlt]at hi;exact .inl ⟨hlt,hi,h2.get (fun h=>h) hi⟩
      ·rw[List.getElem?_append_right (by omega)]at hi;right;obtain⟨j,rfl⟩:∃j,i=H.length+j:=⟨i - H.length,by omega⟩;rw[Nat.add_sub_cancel_left]at hi;have hj:j<6:=(ges hi).1
       match j,hj with
       | 0,_=>cases hi;exact⟨rfl,by rw[Nat.add_zero,g1];exact a2⟩
       | 1,_=>cases hi;exact⟨by simp[inBO,inBs,inB],by rw[g2,c3];simp only[renO,rens,ren,g3];congr⟩
       | 2,_=>cases hi;exact⟨inBs_itcs _ _,by rw[g3,c6];simp only[renO,rens_itcs]⟩
       | 3,_=>cases hi;exact⟨by simp only[inBO,brC,rootC,inBs,inBs_append,inB,inBs_nils];simp,by rw[g4,a1];simp only[renO,brC,rootC,rens,rens_append,ren,rens_nils,g1,g2,g6]⟩
       | 4,_=>cases hi;exact⟨rfl,by rw[g5];exact a4⟩
       | 5,_=>cases hi;exact⟨by simp[inBO,nodC,inBs,inB],by rw[g6,a3];simp only[renO,nodC,rens,ren,g5]⟩
     ·rw[hlen]at hi hj;exact gj i j hi hj hne
  ·cases e
 ·cases e
end Go.Shade
namespace Go.Shade
def unit3 :List IV->Option (List It)
 | []=>some []
 | .int .i64 a:: .int .i64 b:: .int .i64 c::l=>match unit3 l with
  | some k=>some (⟨a,b,c⟩::k)
  | none=>none
 | _=>none
def lastL :List It->Option It
 | []=>none
 | [x]=>some x
 | _::l=>lastL l
def popT (args:List IV)(H:Heap):Option (IV×Heap):=match args with
 | [.ptr q 0]=>match H[q]? with
  | some (.row [.slice r 0 n lb ex 3,.int .i64 k] false)=>match H[r]? with
   | some (.row cs false)=>match unit3 cs with
    | some items=>if Nat.beq lb items.length&&(Nat.blt 0 n&&(Nat.ble n lb&&(!Nat.beq r q&&Nat.ble n 1000000)))then
      match lastL (popL (items.take n))with
      | some x=>some (.tuple [.int .i64 x.key,.int .i64 x.n,.bool true],(H.set r (.row (itcs (popL (items.take n)++items.drop n)) false)).set q (.row [.slice r 0 (n - 1) lb ex 3,.int .i64 k] false))
      | none=>none
     else none
    | none=>none
   | _=>none
  | _=>none
 | _=>none
theorem unit3_eq :∀{cs:List IV} {l:List It},unit3 cs=some l->cs=itcs l
 | [],l,h=>by cases h;rfl
 | .int .i64 a:: .int .i64 b:: .int .i64 c::cs,l,h=>by
  simp only[unit3]at h;split at h
  ·rename_i k hk
   cases h
   rw[unit3_eq hk];rfl
  ·cases h
theorem lastL_eq :∀{l:List It} {x:It},lastL l=some x->l=l.dropLast++[x]
 | [],x,h=>by cases h
 | [y],x,h=>by cases h;rfl
 | y::z::l,x,h=>by
  have:=lastL_eq (l:=z::l) h;rw[List.dropLast_cons_cons,List.cons_append,←this]
theorem sound_popT {P:Program}{O:Oracle}(hφ:Sound P O){f:FuncId}(hp:QPopOk O f)(args:List IV)(H:Heap)(r:IV)(H':Heap)(e:popT args H=some (r,H')):SimCall P f args H r H':=by
 unfold popT at e;split at e
 ·rename_i q;split at e
  ·rename_i r0 n lb ex k hq;split at e
   ·rename_i cs hr;split at e
    ·rename_i items hi;split at e
     ·rename_i hc;simp only[Bool.and_eq_true,Bool.not_eq_true']at hc;obtain⟨c1,c2,c3,c4,c5⟩:=hc;have c1:=Nat.eq_of_beq_eq_true c1;have c2:1<=n:=by simpa[Nat.blt]using c2
      have c3:=nble c3;have c5:=nble c5;have c4:r0≠q:=fun h=>by rw[h,Nat.beq_refl]at c4;cases c4
      split at e
      ·rename_i x hx
       cases e
       have hcs:=unit3_eq hi;subst hcs c1;have hl:(items.take n).length=n:=by rw[List.length_take];omega
       have hX:QX H q r0 ex (items.drop n) (items.take n) k:=⟨by rw[hl,List.length_drop,show n+(items.length - n)=items.length by omega];exact hq,by rw[List.take_append_drop];exact hr,c4⟩;have hQ:QOk (fun i=>i=q∨i=r0) H q (items.take n) k:=by
        refine⟨.inl rfl,fun i hi=> ?_,_,hX.hd,.inr ⟨r0,items.drop n,ex,rfl,⟨.inr rfl,c4⟩,hX.row⟩⟩;rcases hi with rfl | rfl
        ·exact(ges hq).1
        ·exact(ges hr).1
       obtain⟨⟨v,H1⟩,h1,h2,h3⟩:=hp _ H q _ k hQ (by omega);rcases h3 with⟨h3,_⟩ | ⟨y,h3,h4,h5,h6⟩
       ·rw[h3]at hl;simp at hl;omega
       ·simp only at h2 h4 h5 h6;have hxy:x=y:=by
         have a:=lastL_eq hx;rw[h3]at a;have:=congrArg List.getLast? a;rw[h3]at this
         simpa using this.symm
        subst hxy h4;have h6:=h6 _ _ _ hX;have hlq:=(ges hq).1;have hlr:=(ges hr).1;have hdl:(popL (items.take n)).dropLast.length=n - 1:=by rw[List.length_dropLast,popL_length,hl]
        have hrow:popL (items.take n)++items.drop n=(popL (items.take n)).dropLast++x::items.drop n:=by
         conv=>lhs;rw[h3]
         simp
        refine(hφ _ _ _ _ _ h1).clean (fun i=>i) (fun i _=>rfl) (by simp) (fun i o hi=> ?_) (fun i j _ _ h=>h) (ren_idf _ rfl).symm (by simp[inB,inBs]);by_cases e1:i=q
        ·subst e1;have hlq':i<(H.set r0 (.row (itcs (popL (items.take n)++items.drop n)) false)).length:=by simpa using hlq
         rw[List.getElem?_set_self hlq']at hi
         cases hi
         refine .inr ⟨by simp[inBO,inBs,inB];exact hlr,?_⟩;rw[h6.hd,hdl];have:n - 1+(x::items.drop n).length=items.length:=by simp;omega
         rw[this];simp only[renO,rens,ren]
        ·rw[List.getElem?_set_ne (fun h=>e1 h.symm)]at hi;by_cases e2:i=r0
         ·subst e2;rw[List.getElem?_set_self hlr]at hi
          cases hi
          refine .inr ⟨inBs_itcs _ _,?_⟩;rw[h6.row,hrow];simp only[renO,rens_itcs]
         ·rw[List.getElem?_set_ne (fun h=>e2 h.symm)]at hi;have:=(ges hi).1;exact .inl ⟨this,hi,h2.get (fun h=>h.elim e1 e2) hi⟩
      ·cases e
     ·cases e
    ·cases e
   ·cases e
  ·cases e
 ·cases e
end Go.Shade
namespace Go.Shade
abbrev i6 (n:Int):IV:=.int .i64 n
def aw10A :List IV:=[.slice 0 0 9 9 true 7]
def aw10H :Heap:=[.row ([.bool false,i6 0,i6 1,i6 0,i6 2,.str [97],.str [],.bool false,i6 0,i6 2,i6 0,i6 1,.str [120],.str [],.bool false,i6 0,i6 1,i6 0,i6 4,.str [98],.str [],.bool true,i6 0,i6 1,i6 0,i6 2,.str [97],.str [],.bool true,i6 0,i6 2,i6 0,i6 1,.str [121],.str [],.bool true,i6 0,i6 1,i6 0,i6 1,.str [98],.str [],.bool true,i6 0,i6 1,i6 0,i6 1,.str [99],.str [],.bool true,i6 4,i6 5,i6 0,i6 0,.str [],.str [104,105],.bool true,i6 0,i6 1,i6 0,i6 3,.str [108],.str [116]]) false]
def aw10R :IV:=.tuple [.ptr 1 0,.bool true]
def aw10K :Heap:=[
 .row ([.bool false,i6 0,i6 1,i6 0,i6 2,.str [97],.str [],.bool false,i6 0,i6 2,i6 0,i6 1,.str [120],.str [],.bool false,i6 0,i6 1,i6 0,i6 4,.str [98],.str [],.bool true,i6 0,i6 1,i6 0,i6 2,.str [97],.str [],.bool true,i6 0,i6 2,i6 0,i6 1,.str [121],.str [],.bool true,i6 0,i6 1,i6 0,i6 1,.str [98],.str [],.bool true,i6 0,i6 1,i6 0,i6 1,.str [99],.str [],.bool true,i6 4,i6 5,i6 0,i6 0,.str [],.str [104,105],.bool true,i6 0,i6 1,i6 0,i6 3,.str [108],.str [116]]) false,
 .row ([.ptr 2 0,.ptr 3 0,.ptr 4 0,.ptr 5 0]) false,
 .row ([.ptr 6 0,.nilPtr,.ptr 7 0,.ptr 8 0,.ptr 9 0,.ptr 10 0]++zrep 196 [.nilPtr]++[.ptr 11 0]) false,
 .row ([.ptr 12 0,.nilPtr,.ptr 13 0,.ptr 14 0,.ptr 15 0,.ptr 16 0,.ptr 17 0,.ptr 18 0]++zrep 194 [.nilPtr]++[.ptr 19 0]) false,
 .row ([.ptr 20 0,i6 0,i6 0,i6 0,i6 0,i6 0,.nilSlice,.nilSlice,.nilSlice,.str [],i6 2,i6 1,i6 0,i6 0,i6 1,.nilSlice,.nilSlice,.slice 21 0 2 2 false 2,.str [],i6 2,i6 1,i6 0,i6 0,i6 1,.nilSlice,.nilSlice,.slice 22 0 1 1 false 2,.str [],i6 1,i6 1,i6 0,i6 0,i6 0,.nilSlice,.nilSlice,.nilSlice,.str [],i6 4,i6 1]++zrep 196 [i6 0,i6 0,i6 0,.nilSlice,.nilSlice,.nilSlice,.str [],i6 0,i6 0]++[i6 0,i6 0,i6 0,.nilSlice,.nilSlice,.nilSlice,.str []]) false,
 .row ([.ptr 23 0,i6 0,i6 0,i6 0,i6 0,i6 0,.nilSlice,.nilSlice,.nilSlice,.str [],i6 2,i6 1,i6 0,i6 0,i6 1,.nilSlice,.nilSlice,.slice 24 0 4 4 false 2,.str [],i6 2,i6 1,i6 0,i6 0,i6 1,.nilSlice,.nilSlice,.slice 25 0 1 1 false 2,.str [],i6 1,i6 1,i6 0,i6 0,i6 0,.nilSlice,.nilSlice,.nilSlice,.str [],i6 1,i6 1,i6 0,i6 0,i6 0,.nilSlice,.nilSlice,.nilSlice,.str [],i6 1,i6 1,i6 0,i6 0,i6 0,.slice 26 0 2 2 false 1,.slice 27 0 1 1 false 1,.nilSlice,.str [],i6 3,i6 1,i6 0,i6 0,i6 0,.nilSlice,.nilSlice,.nilSlice,.str [116]]++zrep 194 [i6 0,i6 0,i6 0,i6 0,i6 0,.nilSlice,.nilSlice,.nilSlice,.str []]) false,
 .row ([i6 500,i6 0]) false,
 .row ([i6 2,i6 1,i6 0,i6 0,i6 1,.nilPtr,.ptr 28 0,.str []]) false,
 .row ([i6 2,i6 1,i6 0,i6 0,i6 1,.nilPtr,.ptr 29 0,.str []]) false,
 .row ([i6 1,i6 1,i6 0,i6 0,i6 0,.ptr 30 0,.nilPtr,.str []]) false,
 .row ([i6 4,i6 1,i6 0,i6 0,i6 0,.nilPtr,.nilPtr,.str []]) false,
 .row ([.slice 31 0 196 199 false 3,i6 199]) false,
 .row ([i6 500,i6 1]) false,
 .row ([i6 2,i6 1,i6 0,i6 0,i6 1,.nilPtr,.ptr 32 0,.str []]) false,
 .row ([i6 2,i6 1,i6 0,i6 0,i6 1,.nilPtr,.ptr 33 0,.str []]) false,
 .row ([i6 1,i6 1,i6 0,i6 0,i6 0,.ptr 34 0,.nilPtr,.str []]) false,
 .row ([i6 1,i6 1,i6 0,i6 0,i6 0,.ptr 35 0,.nilPtr,.str []]) false,
 .row ([i6 1,i6 1,i6 0,i6 0,i6 0,.ptr 36 0,.nilPtr,.str []]) false,
 .row ([i6 3,i6 1,i6 0,i6 0,i6 0,.nilPtr,.nilPtr,.str [116]]) false,
 .row ([.slice 37 0 194 199 false 3,i6 199]) false,
 .row ([i6 500,i6 0]) false,
 .row ([.str [97],i6 2,.str [98],i6 4]) false,
 .row ([.str [120],i6 3]) false,
 .row ([i6 500,i6 1]) false,
 .row ([.str [97],i6 2,.str [98],i6 4,.str [99],i6 5,.str [108],i6 6]) false,
 .row ([.str [121],i6 3]) false,
 .row ([.int .u8 104,.int .u8 105]) false,
 .row ([.bool true]) false,
 .row ([.slice 38 0 2 2 false 2]) false,
 .row ([.slice 39 0 1 1 false 2]) false,
 .row ([i6 0,.map 40]) false,
 .row ([i6 5,i6 5,i6 3,i6 6,i6 6,i6 4,i6 7,i6 7,i6 5,i6 9,i6 9,i6 7,i6 11,i6 11,i6 9,i6 13,i6 13,i6 11,i6 8,i6 8,i6 6,i6 17,i6 17,i6 15,i6 10,i6 10,i6 8,i6 21,i6 21,i6 19,i6 12,i6 12,i6 10,i6 25,i6 25,i6 23,i6 14,i6 14,i6 12,i6 15,i6 15,i6 13,i6 16,i6 16,i6 14,i6 33,i6 33,i6 31,i6 18,i6 18,i6 16,i6 19,i6 19,i6 17,i6 20,i6 20,i6 18,i6 41,i6 41,i6 39,i6 22,i6 22,i6 20,i6 23,i6 23,i6 21,i6 24,i6 24,i6 22,i6 49,i6 49,i6 47,i6 26,i6 26,i6 24,i6 27,i6 27,i6 25,i6 28,i6 28,i6 26,i6 29,i6 29,i6 27,i6 30,i6 30,i6 28,i6 31,i6 31,i6 29,i6 32,i6 32,i6 30,i6 65,i6 65,i6 63,i6 34,i6 34,i6 32,i6 35,i6 35,i6 33,i6 36,i6 36,i6 34,i6 37,i6 37,i6 35,i6 38,i6 38,i6 36,i6 39,i6 39,i6 37,i6 40,i6 40,i6 38,i6 81,i6 81,i6 79,i6 42,i6 42,i6 40,i6 43,i6 43,i6 41,i6 44,i6 44,i6 42,i6 45,i6 45,i6 43,i6 46,i6 46,i6 44,i6 47,i6 47,i6 45,i6 48,i6 48,i6 46,i6 97,i6 97,i6 95,i6 50,i6 50,i6 48,i6 51,i6 51,i6 49,i6 52,i6 52,i6 50,i6 53,i6 53,i6 51,i6 54,i6 54,i6 52,i6 55,i6 55,i6 53,i6 56,i6 56,i6 54,i6 57,i6 57,i6 55,i6 58,i6 58,i6 56,i6 59,i6 59,i6 57,i6 60,i6 60,i6 58,i6 61,i6 61,i6 59,i6 62,i6 62,i6 60,i6 63,i6 63,i6 61,i6 64,i6 64,i6 62,i6 129,i6 129,i6 127,i6 66,i6 66,i6 64,i6 67,i6 67,i6 65,i6 68,i6 68,i6 66,i6 69,i6 69,i6 67,i6 70,i6 70,i6 68,i6 71,i6 71,i6 69,i6 72,i6 72,i6 70,i6 73,i6 73,i6 71,i6 74,i6 74,i6 72,i6 75,i6 75,i6 73,i6 76,i6 76,i6 74,i6 77,i6 77,i6 75,i6 78,i6 78,i6 76,i6 79,i6 79,i6 77,i6 80,i6 80,i6 78,i6 161,i6 161,i6 159,i6 82,i6 82,i6 80,i6 83,i6 83,i6 81,i6 84,i6 84,i6 82,i6 85,i6 85,i6 83,i6 86,i6 86,i6 84,i6 87,i6 87,i6 85,i6 88,i6 88,i6 86,i6 89,i6 89,i6 87,i6 90,i6 90,i6 88,i6 91,i6 91,i6 89,i6 92,i6 92,i6 90,i6 93,i6 93,i6 91,i6 94,i6 94,i6 92,i6 95,i6 95,i6 93,i6 96,i6 96,i6 94,i6 193,i6 193,i6 191,i6 98,i6 98,i6 96,i6 99,i6 99,i6 97,i6 100,i6 100,i6 98,i6 101,i6 101,i6 99,i6 102,i6 102,i6 100,i6 103,i6 103,i6 101,i6 104,i6 104,i6 102,i6 105,i6 105,i6 103,i6 106,i6 106,i6 104,i6 107,i6 107,i6 105,i6 108,i6 108,i6 106,i6 109,i6 109,i6 107,i6 110,i6 110,i6 108,i6 111,i6 111,i6 109,i6 112,i6 112,i6 110,i6 113,i6 113,i6 111,i6 114,i6 114,i6 112,i6 115,i6 115,i6 113,i6 116,i6 116,i6 114,i6 117,i6 117,i6 115,i6 118,i6 118,i6 116,i6 119,i6 119,i6 117,i6 120,i6 120,i6 118,i6 121,i6 121,i6 119,i6 122,i6 122,i6 120,i6 123,i6 123,i6 121,i6 124,i6 124,i6 122,i6 125,i6 125,i6 123,i6 126,i6 126,i6 124,i6 127,i6 127,i6 125,i6 128,i6 128,i6 126,i6 200,i6 200,i6 198,i6 130,i6 130,i6 128,i6 131,i6 131,i6 129,i6 132,i6 132,i6 130,i6 133,i6 133,i6 131,i6 134,i6 134,i6 132,i6 135,i6 135,i6 133,i6 136,i6 136,i6 134,i6 137,i6 137,i6 135,i6 138,i6 138,i6 136,i6 139,i6 139,i6 137,i6 140,i6 140,i6 138,i6 141,i6 141,i6 139,i6 142,i6 142,i6 140,i6 143,i6 143,i6 141,i6 144,i6 144,i6 142,i6 145,i6 145,i6 143,i6 146,i6 146,i6 144,i6 147,i6 147,i6 145,i6 148,i6 148,i6 146,i6 149,i6 149,i6 147,i6 150,i6 150,i6 148,i6 151,i6 151,i6 149,i6 152,i6 152,i6 150,i6 153,i6 153,i6 151,i6 154,i6 154,i6 152,i6 155,i6 155,i6 153,i6 156,i6 156,i6 154,i6 157,i6 157,i6 155,i6 158,i6 158,i6 156,i6 159,i6 159,i6 157,i6 160,i6 160,i6 158,i6 198,i6 198,i6 196,i6 162,i6 162,i6 160,i6 163,i6 163,i6 161,i6 164,i6 164,i6 162,i6 165,i6 165,i6 163,i6 166,i6 166,i6 164,i6 167,i6 167,i6 165,i6 168,i6 168,i6 166,i6 169,i6 169,i6 167,i6 170,i6 170,i6 168,i6 171,i6 171,i6 169,i6 172,i6 172,i6 170,i6 173,i6 173,i6 171,i6 174,i6 174,i6 172,i6 175,i6 175,i6 173,i6 176,i6 176,i6 174,i6 177,i6 177,i6 175,i6 178,i6 178,i6 176,i6 179,i6 179,i6 177,i6 180,i6 180,i6 178,i6 181,i6 181,i6 179,i6 182,i6 182,i6 180,i6 183,i6 183,i6 181,i6 184,i6 184,i6 182,i6 185,i6 185,i6 183,i6 186,i6 186,i6 184,i6 187,i6 187,i6 185,i6 188,i6 188,i6 186,i6 189,i6 189,i6 187,i6 190,i6 190,i6 188,i6 191,i6 191,i6 189,i6 192,i6 192,i6 190,i6 199,i6 199,i6 197,i6 194,i6 194,i6 192,i6 195,i6 195,i6 193,i6 196,i6 196,i6 194,i6 197,i6 197,i6 195,i6 4,i6 4,i6 2,i6 3,i6 3,i6 1,i6 2,i6 2,i6 0]) false,
 .row ([.slice 41 0 4 4 false 2]) false,
 .row ([.slice 42 0 1 1 false 2]) false,
 .row ([i6 0,.map 43]) false,
 .row ([i6 0,.map 44]) false,
 .row ([i6 2,.map 45]) false,
 .row ([i6 7,i6 7,i6 5,i6 9,i6 9,i6 7,i6 8,i6 8,i6 6,i6 10,i6 10,i6 8,i6 11,i6 11,i6 9,i6 13,i6 13,i6 11,i6 15,i6 15,i6 13,i6 17,i6 17,i6 15,i6 19,i6 19,i6 17,i6 21,i6 21,i6 19,i6 12,i6 12,i6 10,i6 25,i6 25,i6 23,i6 14,i6 14,i6 12,i6 29,i6 29,i6 27,i6 16,i6 16,i6 14,i6 33,i6 33,i6 31,i6 18,i6 18,i6 16,i6 37,i6 37,i6 35,i6 20,i6 20,i6 18,i6 41,i6 41,i6 39,i6 22,i6 22,i6 20,i6 23,i6 23,i6 21,i6 24,i6 24,i6 22,i6 49,i6 49,i6 47,i6 26,i6 26,i6 24,i6 27,i6 27,i6 25,i6 28,i6 28,i6 26,i6 57,i6 57,i6 55,i6 30,i6 30,i6 28,i6 31,i6 31,i6 29,i6 32,i6 32,i6 30,i6 65,i6 65,i6 63,i6 34,i6 34,i6 32,i6 35,i6 35,i6 33,i6 36,i6 36,i6 34,i6 73,i6 73,i6 71,i6 38,i6 38,i6 36,i6 39,i6 39,i6 37,i6 40,i6 40,i6 38,i6 81,i6 81,i6 79,i6 42,i6 42,i6 40,i6 43,i6 43,i6 41,i6 44,i6 44,i6 42,i6 45,i6 45,i6 43,i6 46,i6 46,i6 44,i6 47,i6 47,i6 45,i6 48,i6 48,i6 46,i6 97,i6 97,i6 95,i6 50,i6 50,i6 48,i6 51,i6 51,i6 49,i6 52,i6 52,i6 50,i6 53,i6 53,i6 51,i6 54,i6 54,i6 52,i6 55,i6 55,i6 53,i6 56,i6 56,i6 54,i6 113,i6 113,i6 111,i6 58,i6 58,i6 56,i6 59,i6 59,i6 57,i6 60,i6 60,i6 58,i6 61,i6 61,i6 59,i6 62,i6 62,i6 60,i6 63,i6 63,i6 61,i6 64,i6 64,i6 62,i6 129,i6 129,i6 127,i6 66,i6 66,i6 64,i6 67,i6 67,i6 65,i6 68,i6 68,i6 66,i6 69,i6 69,i6 67,i6 70,i6 70,i6 68,i6 71,i6 71,i6 69,i6 72,i6 72,i6 70,i6 145,i6 145,i6 143,i6 74,i6 74,i6 72,i6 75,i6 75,i6 73,i6 76,i6 76,i6 74,i6 77,i6 77,i6 75,i6 78,i6 78,i6 76,i6 79,i6 79,i6 77,i6 80,i6 80,i6 78,i6 161,i6 161,i6 159,i6 82,i6 82,i6 80,i6 83,i6 83,i6 81,i6 84,i6 84,i6 82,i6 85,i6 85,i6 83,i6 86,i6 86,i6 84,i6 87,i6 87,i6 85,i6 88,i6 88,i6 86,i6 89,i6 89,i6 87,i6 90,i6 90,i6 88,i6 91,i6 91,i6 89,i6 92,i6 92,i6 90,i6 93,i6 93,i6 91,i6 94,i6 94,i6 92,i6 95,i6 95,i6 93,i6 96,i6 96,i6 94,i6 193,i6 193,i6 191,i6 98,i6 98,i6 96,i6 99,i6 99,i6 97,i6 100,i6 100,i6 98,i6 101,i6 101,i6 99,i6 102,i6 102,i6 100,i6 103,i6 103,i6 101,i6 104,i6 104,i6 102,i6 105,i6 105,i6 103,i6 106,i6 106,i6 104,i6 107,i6 107,i6 105,i6 108,i6 108,i6 106,i6 109,i6 109,i6 107,i6 110,i6 110,i6 108,i6 111,i6 111,i6 109,i6 112,i6 112,i6 110,i6 196,i6 196,i6 194,i6 114,i6 114,i6 112,i6 115,i6 115,i6 113,i6 116,i6 116,i6 114,i6 117,i6 117,i6 115,i6 118,i6 118,i6 116,i6 119,i6 119,i6 117,i6 120,i6 120,i6 118,i6 121,i6 121,i6 119,i6 122,i6 122,i6 120,i6 123,i6 123,i6 121,i6 124,i6 124,i6 122,i6 125,i6 125,i6 123,i6 126,i6 126,i6 124,i6 127,i6 127,i6 125,i6 128,i6 128,i6 126,i6 200,i6 200,i6 198,i6 130,i6 130,i6 128,i6 131,i6 131,i6 129,i6 132,i6 132,i6 130,i6 133,i6 133,i6 131,i6 134,i6 134,i6 132,i6 135,i6 135,i6 133,i6 136,i6 136,i6 134,i6 137,i6 137,i6 135,i6 138,i6 138,i6 136,i6 139,i6 139,i6 137,i6 140,i6 140,i6 138,i6 141,i6 141,i6 139,i6 142,i6 142,i6 140,i6 143,i6 143,i6 141,i6 144,i6 144,i6 142,i6 197,i6 197,i6 195,i6 146,i6 146,i6 144,i6 147,i6 147,i6 145,i6 148,i6 148,i6 146,i6 149,i6 149,i6 147,i6 150,i6 150,i6 148,i6 151,i6 151,i6 149,i6 152,i6 152,i6 150,i6 153,i6 153,i6 151,i6 154,i6 154,i6 152,i6 155,i6 155,i6 153,i6 156,i6 156,i6 154,i6 157,i6 157,i6 155,i6 158,i6 158,i6 156,i6 159,i6 159,i6 157,i6 160,i6 160,i6 158,i6 198,i6 198,i6 196,i6 162,i6 162,i6 160,i6 163,i6 163,i6 161,i6 164,i6 164,i6 162,i6 165,i6 165,i6 163,i6 166,i6 166,i6 164,i6 167,i6 167,i6 165,i6 168,i6 168,i6 166,i6 169,i6 169,i6 167,i6 170,i6 170,i6 168,i6 171,i6 171,i6 169,i6 172,i6 172,i6 170,i6 173,i6 173,i6 171,i6 174,i6 174,i6 172,i6 175,i6 175,i6 173,i6 176,i6 176,i6 174,i6 177,i6 177,i6 175,i6 178,i6 178,i6 176,i6 179,i6 179,i6 177,i6 180,i6 180,i6 178,i6 181,i6 181,i6 179,i6 182,i6 182,i6 180,i6 183,i6 183,i6 181,i6 184,i6 184,i6 182,i6 185,i6 185,i6 183,i6 186,i6 186,i6 184,i6 187,i6 187,i6 185,i6 188,i6 188,i6 186,i6 189,i6 189,i6 187,i6 190,i6 190,i6 188,i6 191,i6 191,i6 189,i6 192,i6 192,i6 190,i6 199,i6 199,i6 197,i6 194,i6 194,i6 192,i6 195,i6 195,i6 193,i6 6,i6 6,i6 4,i6 5,i6 5,i6 3,i6 4,i6 4,i6 2,i6 3,i6 3,i6 1,i6 2,i6 2,i6 0]) false,
 .row ([.str [97],i6 2,.str [98],i6 4]) false,
 .row ([.str [120],i6 3]) false,
 .map [] 0,
 .row ([.str [97],i6 2,.str [98],i6 4,.str [99],i6 5,.str [108],i6 6]) false,
 .row ([.str [121],i6 3]) false,
 .map [] 0,
 .map [] 0,
 .map [(i6 0,.agg [.int .u8 104,.int .u8 105,.int .u8 0,.int .u8 0,.int .u8 0,.int .u8 0,.int .u8 0,.int .u8 0,.int .u8 0,.int .u8 0,.int .u8 0,.int .u8 0,.int .u8 0,.int .u8 0,.int .u8 0,.int .u8 0],0)] 1]
end Go.Shade
namespace Go.Proofs.YtmkjmfegaalcoaaGreat
open Go.Shade
abbrev t3 :Table:=ext (ext (ext T0 137 insT) 42 bnT) 96 popT
abbrev t4 :Table:=ext t3 24 (atT aw10A aw10H aw10R aw10K)
end Go.Proofs.YtmkjmfegaalcoaaGreat
namespace Go.Proofs.YtmkjmfegaalcoaaGreat
open Go.Shade
end Go.Proofs.YtmkjmfegaalcoaaGreat
namespace Go.Proofs.YtmkjmfegaalcoaaGreat
open Go.Shade
theorem s0 :Sound Tryz.prog (den Tryz.prog T0):=sound_den (soundT0 _) hm
theorem rev0 :RevOk (den Tryz.prog T0) 180:=by
 unfold RevOk;intros;exact denLo rfl lo180 1000001 (nble rfl) (by rw[Go.Shade.sRevEq];exact rev_s (by omega) ‹_› ‹_› ‹_› ‹_› ‹_›)
theorem rotl0 :RotOk (den Tryz.prog T0) 175:=by
 unfold RotOk;intros;exact denLo rfl lo175 0 (nble (by kernel_rfl)) (by rw[e175];exact rotl_s rev0 ‹_› ‹_› ‹_› ‹_› ‹_› ‹_› ‹_›)
theorem rotr0 :∀(H:Heap) (b o n lb r:Nat) (ex:Bool) (l:List Pr),H[b]? =some (.row (fl l) false)->one2 l->1<=r->r<n->n<=lb->o+n<=l.length->n<=1000000->den Tryz.prog T0 165 [.slice b (2*o) n lb ex 2,.int .i64 (r:Nat)] H=some (.tuple [],H.set b (.row (fl (rot l o n (n - r))) false)) :=
 fun H b o n lb r ex l h1 h2 h3 h4 h5 h6 h7=>denLo rfl lo165 0 (nble (by kernel_rfl)) (by rw[e165];exact rotr_s rotl0 h1 h2 h3 h4 h5 h6 h7)
theorem sIns :SoundT Tryz.prog (ext T0 137 insT):=soundExt (soundT0 _) (sound_insT s0 hm lo137 rotr0)
abbrev t1 :Table:=ext (ext T0 137 insT) 176 cutT
theorem ss1 :SoundT Tryz.prog t1:=soundExt sIns (sound_cutT s0 hm lo176)
theorem inT_ne {f g:Nat}(h:inT f=false)(hg:inT g=true):f≠g:=fun e=>by rw[e,hg]at h;cases h
theorem tb1 :TbOk t1:=⟨fun f h=>by
 show(if f=176 then some cutT else if f=137 then some insT else none)=none;rw[if_neg (inT_ne h rfl),if_neg (inT_ne h rfl)],rfl,rfl⟩
theorem s1 :Sound Tryz.prog (den Tryz.prog t1):=sound_den ss1 hm
theorem ss3 :SoundT Tryz.prog t3:=soundExt (soundExt sIns (sound_bnT s1 (okBNew tb1))) (sound_popT s1 (okQPop tb1))
def awF (args:List IV)(H:Heap):Option (IV×Heap):=match args with
 | []=>some (.bool true,H)
 | _=>none
abbrev tt :Table:=ext t1 23 awF
theorem tb :TbOk tt:=⟨fun f h=>by
 show(if f=23 then some awF else if f=176 then some cutT else if f=137 then some insT else none)=none;rw[if_neg (inT_ne h rfl),if_neg (inT_ne h rfl),if_neg (inT_ne h rfl)],rfl,rfl⟩
noncomputable abbrev dd :Oracle:=den Tryz.prog tt
end Go.Proofs.YtmkjmfegaalcoaaGreat
namespace Go.Shade
end Go.Shade
namespace Go.Shade
structure Cl where
 op:Int
 fd:Int
 fl:Int
 n:Int
 off:Int
 a:List UInt8
 b:List UInt8
 deriving DecidableEq
def Cl.cells (c:Cl):List IV:=[.int .i64 c.op,.int .i64 c.fd,.int .i64 c.fl,.int .i64 c.n,.int .i64 c.off,.str c.a,.str c.b]
def Cl.may (c:Cl):Bool:=(decide (1<=c.op)&&decide (c.op<=20))&&((decide (-4<=c.fd)&&decide (c.fd<=35))&&((decide (0<=c.fl)&&decide (c.fl<=63))&&((decide (-256<=c.n)&&decide (c.n<=65279))&&((decide (-256<=c.off)&&decide (c.off<=65279))&&(decide ((c.a.length:Int)<64)&&decide ((c.b.length:Int)<64))))))
def ub (x:Int):UInt8:=UInt8.ofNat (x % 256).toNat
def Cl.enc (c:Cl):List UInt8:=[ub (c.op - 1),ub (c.fd+4),ub c.fl,ub ((c.n+256) / 256),ub (c.n+256),ub ((c.off+256) / 256),ub (c.off+256),ub c.a.length]++c.a++([ub c.b.length]++c.b)
theorem Cl.may_iff (c:Cl):c.may=true↔(1<=c.op/\c.op<=20)/\(-4<=c.fd/\c.fd<=35)/\(0<=c.fl/\c.fl<=63)/\(-256<=c.n/\c.n<=65279)/\(-256<=c.off/\c.off<=65279)/\(c.a.length:Int)<64/\(c.b.length:Int)<64:=by
 simp only[Cl.may,Bool.and_eq_true,decide_eq_true_eq]
end Go.Shade
namespace Go.Shade
def BS (H:Heap)(v:IV)(bs:List UInt8):Prop :=
 (v=.nilSlice/\bs=[])∨∃b o n lb ex sz,v=.slice b o n lb ex sz/\n<=lb/\(sz=0∨sz=1)/\bs.length=n/\(0<n->∃cells ro,H[b]? =some (.row cells ro)/\∀i,i<n->cells[o+i]? =some (.int .u8 ((bs.getD i 0).toNat:Int)))
def off (H:Heap)(p:Nat)(v:IV):Prop:=∀b o n lb ex sz,v=.slice b o n lb ex sz->b≠p
def low (B:Nat)(v:IV):Prop:=∀b o n lb ex sz,v=.slice b o n lb ex sz->b<B
def rdText (bs:List UInt8):List UInt8:=(List.range ((bs.getD 0 0).toNat % 64)).map fun i=>bs.getD (i+1) 0
def TextN (bs:List UInt8):Nat:=(bs.getD 0 0).toNat % 64+1
end Go.Shade
namespace Go.Shade
def rd1 (bs:List UInt8):List UInt8:=bs.drop 7
def rd2 (bs:List UInt8):List UInt8:=(rd1 bs).drop (TextN (rd1 bs))
def rdCl (bs:List UInt8):Cl:= { op:=((bs.getD 0 0).toNat:Int) % 20+1,fd:=((bs.getD 1 0).toNat:Int) % 40 - 4,fl:=((bs.getD 2 0).toNat:Int) % 64,n:=((bs.getD 3 0).toNat:Int)*256+((bs.getD 4 0).toNat:Int) - 256,off:=((bs.getD 5 0).toNat:Int)*256+((bs.getD 6 0).toNat:Int) - 256,a:=rdText (rd1 bs),b:=rdText (rd2 bs) }
def rdN (bs:List UInt8):Nat:=7+TextN (rd1 bs)+TextN (rd2 bs)
section
variable {H : Heap} {p q : Nat} {v v' : IV} {cs cs' : List IV} {bs : List UInt8}
end
end Go.Shade
namespace Go.Shade
def CS (H:Heap)(v:IV)(l:List Cl):Prop :=
 (v=.nilSlice/\l=[])∨∃b o n lb ex sz,v=.slice b o n lb ex sz/\n<=lb/\(sz=0∨sz=7)/\l.length=n/\∀i c,l[i]? =some c->lloadn H 7 (.ptr b (o+i*7))=some (.agg c.cells)
end Go.Shade
namespace Go.Shade
end Go.Shade
namespace Go.Shade
theorem Cl.inj {c d:Cl}(h:c.cells=d.cells):c=d:=by
 simp only[Cl.cells,List.cons.injEq,IV.int.injEq,IV.str.injEq,true_and,and_true]at h;obtain⟨h1,h2,h3,h4,h5,h6,h7⟩:=h
 cases c;cases d;simp_all
theorem BS.inj {H:Heap}{v:IV}{bs cs:List UInt8}(h:BS H v bs)(k:BS H v cs):bs=cs:=by
 rcases h with⟨rfl,rfl⟩ | ⟨b,o,n,lb,ex,sz,rfl,h1,h2,h3,h4⟩
 ·rcases k with⟨_,rfl⟩ | ⟨b,o,n,lb,ex,sz,e,_⟩
  ·rfl
  ·cases e
 ·rcases k with⟨e,_⟩ | ⟨b',o',n',lb',ex',sz',e,k1,k2,k3,k4⟩
  ·cases e
  ·cases e
   apply List.ext_getElem (by omega);intro i hi hi';obtain⟨cells,ro,g1,g2⟩:=h4 (by omega);obtain⟨cells',ro',g1',g2'⟩:=k4 (by omega);rw[g1]at g1';cases g1'
   have a:=g2 i (by omega);have b':=g2' i (by omega);rw[a]at b';simp only[Option.some.injEq,IV.int.injEq,true_and,List.getD_eq_getElem?_getD,List.getElem?_eq_getElem hi,List.getElem?_eq_getElem hi',Option.getD_some]at b';exact UInt8.toNat_inj.1 (by omega)
theorem CS.inj {H:Heap}{v:IV}{l k:List Cl}(h:CS H v l)(g:CS H v k):l=k:=by
 rcases h with⟨rfl,rfl⟩ | ⟨b,o,n,lb,ex,sz,rfl,h1,h2,h3,h4⟩
 ·rcases g with⟨_,rfl⟩ | ⟨b,o,n,lb,ex,sz,e,_⟩
  ·rfl
  ·cases e
 ·rcases g with⟨e,_⟩ | ⟨b',o',n',lb',ex',sz',e,k1,k2,k3,k4⟩
  ·cases e
  ·cases e
   apply List.ext_getElem (by omega);intro i hi hi';have a:=h4 i _ (List.getElem?_eq_getElem hi);have b':=k4 i _ (List.getElem?_eq_getElem hi');rw[a]at b';simp only[Option.some.injEq,IV.agg.injEq]at b';exact Cl.inj b'
end Go.Shade
namespace Go.Shade
end Go.Shade
namespace Go.Shade
end Go.Shade
namespace Go.Shade
end Go.Shade
namespace Go.Shade
end Go.Shade
namespace Go.Shade
open Go.RowKit
variable {H : Heap}
structure Ln where
 path:List UInt8
 kind:Int
 data:List UInt8
deriving DecidableEq
def Ln.cells (x:Ln):List IV:=[.str x.path,.int .i64 x.kind,.str x.data]
def flat3 (l:List Ln):List IV:=(l.map Ln.cells).flatten
theorem flat3_length (l:List Ln):(flat3 l).length=l.length*3:=by
 induction l with
 | nil=>rfl
 | cons x l ih=>simp only[flat3,List.map_cons,List.flatten_cons,List.length_append,List.length_cons]at ih ⊢;rw[ih];simp[Ln.cells];omega
theorem dropA {α:Type}(a b:List α)(i:Nat):(a++b).drop (a.length+i)=b.drop i:=by
 induction a with
 | nil=>simp
 | cons x a ih=>rw[List.length_cons,show a.length+1+i=(a.length+i)+1 by omega,List.cons_append,List.drop_succ_cons,ih]
theorem takeA {α:Type}(a b:List α)(i:Nat):(a++b).take (a.length+i)=a++b.take i:=by
 induction a with
 | nil=>simp
 | cons x a ih=>rw[List.length_cons,show a.length+1+i=(a.length+i)+1 by omega,List.cons_append,List.take_succ_cons,ih,List.cons_append]
theorem flat3_cons (x:Ln)(l:List Ln):flat3 (x::l)=x.cells++flat3 l:=rfl
theorem flat3_get :∀{l:List Ln} {i:Nat} {x:Ln},l[i]? =some x->((flat3 l).drop (i*3)).take 3=x.cells
 | [],i,x,h=>by simp at h
 | y::l,0,x,h=>by
  simp at h;subst h;rw[flat3_cons,Nat.zero_mul,List.drop_zero];exact(takeA y.cells (flat3 l) 0).trans (by simp)
 | y::l,i+1,x,h=>by
  have ih:=flat3_get (l:=l) (i:=i) (by simpa using h);rw[flat3_cons,show(i+1)*3=y.cells.length+i*3 by simp[Ln.cells];omega,dropA];exact ih
def LnS (H:Heap)(v:IV)(l:List Ln):Prop:=Sl 3 H v l.length (flat3 l)
theorem LnS.len {H:Heap}{v:IV}{l:List Ln}(h:LnS H v l):llen H .slice v=some (.int .i64 (l.length:Nat)):=Sl.len h
theorem LnS.at {v:IV}{l:List Ln}(h:LnS H v l){i:Nat}{x:Ln}(hx:l[i]? =some x):∃b o,lix 3 v (.int .i64 (i:Nat))=some (.ptr b o)/\lloadn H 3 (.ptr b o)=some (.agg x.cells)/\∀k,k<3->lload1 H (.ptr b (o+k))=x.cells[k]? :=by
 obtain⟨b,o,e,row,ro,g1,g2,g3,g4⟩:=Sl.ix h (ges hx).1;have hc:=flat3_get hx;refine⟨b,o,e,by rw[lloadn_ptr,g1,ogn_row,if_pos g2,g3,hc],fun k hk=> ?_⟩;rw[lload1_ptr,g1,og1_row,g4 k hk,←hc,List.getElem?_take,if_pos hk,List.getElem?_drop]
def lineT :List CT:=[.str,.int .i64,.str]
theorem fit_line {e:List IV}(h:Fits H lineT e):∃x:Ln,e=x.cells:=by
 simp only[lineT,Fits,Fit]at h;obtain⟨_,_,rfl,⟨s1,rfl,_⟩,_,_,rfl,⟨n2,rfl,_⟩,_,_,rfl,⟨s3,rfl,_⟩,rfl⟩:=h;exact⟨⟨s1,n2,s3⟩,rfl⟩
theorem fit_lrows {H:Heap}:∀{elems:List (List IV)},(∀e∈elems,Fits H lineT e)->∃l:List Ln,elems.flatten=flat3 l/\l.length=elems.length
 | [],_=>⟨[],rfl,rfl⟩
 | e::es,h=>by
  obtain⟨x,rfl⟩:=fit_line (h e (by simp));obtain⟨l,h1,h2⟩:=fit_lrows (elems:=es) (fun e' he'=>h e' (List.mem_cons_of_mem _ he'));exact⟨x::l,by simp[h1,flat3],by simp[h2]⟩
theorem flat3_take (l:List Ln)(n:Nat):flat3 (l.take n)=(flat3 l).take (n*3):=by
 induction l generalizing n with
 | nil=>simp[flat3]
 | cons x l ih =>
  cases n with
  | zero=>simp[flat3]
  | succ n =>
   rw[List.take_succ_cons,flat3_cons,flat3_cons,ih,show(n+1)*3=x.cells.length+n*3 by simp[Ln.cells];omega,takeA]
theorem fit_lines {v:IV}(h:Fit H (.sl lineT) v):∃l,LnS H v l/\v.one=true/\At (· <H.length) v:=by
 have key:∃l,LnS H v l/\v.one=true:=by
  simp only[Fit]at h;rcases h with rfl | ⟨b,n,elems,rfl,h2,h3,h4,h5⟩
  ·exact⟨[],Sl.nil 3 H,rfl⟩
  ·obtain⟨l,k1,k2⟩:=fit_lrows h5;refine⟨l.take n,⟨flat3_length _,.inr ⟨b,0,elems.length,true,0,by rw[List.length_take,k2,Nat.min_eq_left h3],by rw[List.length_take];omega,.inl rfl,fun hn=>⟨_,true,h2,?_,?_⟩⟩⟩,rfl⟩
   ·rw[k1,flat3_length,List.length_take];omega
   ·rw[k1,List.drop_zero,flat3_take,List.length_take,k2,Nat.min_eq_left h3]
 obtain⟨l,h1,h2⟩:=key;exact⟨l,h1,h2,Sl.lt h1⟩
def lnText (x:Ln):List UInt8:=x.path++[0]++([ub (48+x.kind)]++(x.data++[0,10]))
def textOf (l:List Ln):List UInt8:=(l.map lnText).flatten
theorem textOf_snoc (l:List Ln)(x:Ln):textOf (l++[x])=textOf l++lnText x:=by simp[textOf]
theorem textOf_take_le (l:List Ln)(k:Nat):(textOf (l.take k)).length<=(textOf l).length:=by
 have e:textOf l=textOf (l.take k)++textOf (l.drop k):=by simp only[textOf];rw[←List.flatten_append,←List.map_append,List.take_append_drop]
 rw[e,List.length_append];omega
def unL :List IV->Option (List Ln)
 | []=>some []
 | .str p:: .int .i64 k:: .str d::r=>(unL r).map (⟨p,k,d⟩:: ·)
 | _=>none
theorem unL_eq :∀(n:Nat) {cs:List IV} {l:List Ln},cs.length<=n->unL cs=some l->cs=flat3 l
 | 0,cs,l,hn,h=>by
  obtain rfl:=List.length_eq_zero_iff.1 (Nat.le_zero.1 hn);simp only[unL]at h;cases h;rfl
 | n+1,cs,l,hn,h=>by
  unfold unL at h;split at h
  ·cases h;rfl
  ·rename_i p k d r;obtain⟨k',hk,rfl⟩:=Option.map_eq_some_iff.1 h;rw[unL_eq n (by simp at hn;omega) hk];rfl
  ·cases h
theorem unL_flat :∀(l:List Ln),unL (flat3 l)=some l
 | []=>rfl
 | x::l=>by
  have ih:=unL_flat l;have e:flat3 (x::l)=.str x.path:: .int .i64 x.kind:: .str x.data::flat3 l:=rfl;rw[e,unL,ih];rfl
def textT (args:List IV)(H:Heap):Option (IV×Heap) :=
 match args with
 | [.nilSlice]=>some (.str [],H)
 | [.slice b o n lb ex sz]=>if n=0 then some (.str [],H)else match H[b]? with
  | some (.row cs _)=>match unL ((cs.drop o).take (n*3))with
   | some l=>if l.length=n/\0<n/\n<=lb/\(sz=0∨sz=3)/\(textOf l).length<=1000000 then some (.str (textOf l),H)else none
   | none=>none
  | _=>none
 | _=>none
def encL (s:List UInt8):Value:=.string ⟨s.toArray⟩
theorem Good.read {B0:Nat}{m:Mp}{w:World}{i:Nat}{cs:List IV}{ro:Bool}(h:Good B0 m w i (.row cs ro))(hne:cs≠ []):∃l C e fr,m i=some l/\w.heap[l.cb]? =some (.cells C e fr)/\∀j v,cs[j]? =some v->v.one=true/\∃u,C[l.co+j]? =some u/\VR m v u:=by
 cases ro with
 | false=>obtain⟨l,C,e,fr,h1,h2,_,_,_,_,h3⟩:=h;exact⟨l,C,e,fr,h1,h2,h3⟩
 | true =>
  obtain⟨l,h1,h2⟩:=h;obtain⟨C,e,fr,g1,_,g3⟩:=h2 hne;exact⟨l,C,e,fr,h1,g1,g3⟩
theorem flat3_get1 {l:List Ln}{j:Nat}{x:Ln}(h:l[j]? =some x)(k:Nat)(hk:k<3):(flat3 l)[j*3+k]? =x.cells[k]? :=by
 rw[←flat3_get h,List.getElem?_take,if_pos hk,List.getElem?_drop]
theorem sound_textT {P:Program}{f:FuncId}(h0:∀(p:Option Addr) (c:Nat) (w:World),Calls P f #[.slice p 0 c] w fun e w'=>e=.returned (encL [])/\Below w.heap.size w w') (h1:∀(bk o c:Nat) (l:List Ln) (w:World),bk<w.heap.size->0<l.length->l.length<=c->(textOf l).length<=1000000 ->
   (∀(j:Nat) (x:Ln),l[j]? =some x->w.cell? ⟨bk,o+j*3,none⟩=some (encL x.path)/\w.cell? ⟨bk,o+j*3+1,none⟩=some (.int .i64 x.kind)/\w.cell? ⟨bk,o+j*3+2,none⟩=some (encL x.data)) ->
   Calls P f #[.slice (some ⟨bk,o,none⟩) l.length c] w fun e w'=>e=.returned (encL (textOf l))/\Below w.heap.size w w') (args:List IV) (H:Heap) (r:IV) (H':Heap) (e:textT args H=some (r,H')):SimCall P f args H r H':=by
 unfold textT at e;split at e
 ·cases e
  intro B0 w0 w m us hR hA;obtain⟨v1,t1,e1,r1,e3⟩:=hA;simp only[VRs]at e3;subst e3;simp only[VR]at r1;subst r1;have hus:us= #[.slice none 0 0]:=Array.toList_inj.1 e1;subst hus;refine(h0 none 0 w).mono ?_;rintro en w' ⟨rfl,hb⟩;exact⟨m,_,rfl,Ext.refl m,hR.under hb,VR_str m []⟩
 ·rename_i b o n lb ex sz;split at e
  ·rename_i hn0;subst hn0
   cases e
   intro B0 w0 w m us hR hA;obtain⟨v1,t1,e1,r1,e3⟩:=hA;simp only[VRs]at e3;subst e3;obtain⟨l1,o',c,sp,q1,rfl,q2⟩:=r1;have hus:us= #[.slice (some ⟨l1.cb,o',sp⟩) 0 c]:=Array.toList_inj.1 e1;subst hus;refine(h0 _ c w).mono ?_;rintro en w' ⟨rfl,hb⟩;exact⟨m,_,rfl,Ext.refl m,hR.under hb,VR_str m []⟩
  split at e
  ·rename_i cs ro hb;split at e
   ·rename_i l hl;split at e
    ·rename_i hcond;obtain⟨rfl,c2,c3,c4,c5⟩:=hcond
     cases e
     have hcs:=unL_eq _ (Nat.le_refl _) hl;have hlen:o+l.length*3<=cs.length:=by
      have:=congrArg List.length hcs;simp only[List.length_take,List.length_drop,flat3_length]at this;omega
     intro B0 w0 w m us hR hA;obtain⟨v1,t1,e1,r1,e3⟩:=hA;simp only[VRs]at e3;subst e3;obtain⟨l1,o',c,sp,q1,rfl,q2,q3,q4,q5,q6⟩:=r1;obtain⟨rfl,rfl⟩:=q5 (by omega);have hus:us= #[.slice (some ⟨l1.cb,l1.co+o,none⟩) l.length c]:=Array.toList_inj.1 e1;subst hus;have hne:cs≠ []:=fun e=>by subst e;simp at hlen;omega
     obtain⟨l',C,et,fr,g1,g2,g3⟩:=(hR.good b _ hb).read hne;rw[q1]at g1;cases g1
     have cellAt:∀(j:Nat) (x:Ln),l[j]? =some x->∀k v,k<3->x.cells[k]? =some v->∃u,w.cell? ⟨l1.cb,l1.co+o+j*3+k,none⟩=some u/\VR m v u:=fun j x hx k v hk hv=>by
      have hj:=(ges hx).1;have h2:=flat3_get1 hx k hk;rw[←hcs,List.getElem?_take,if_pos (by omega),List.getElem?_drop,hv]at h2;obtain⟨_,u,hu,hvr⟩:=g3 _ _ h2;refine⟨u,?_,hvr⟩;rw[cell_of g2,show l1.co+o+j*3+k=l1.co+(o+(j*3+k)) by omega,hu]
     refine(h1 l1.cb (l1.co+o) c l w (Array.getElem?_eq_some_iff.1 g2).1 c2 (by omega) c5 fun j x hx=> ?_).mono ?_
     ·obtain⟨u0,a0,b0⟩:=cellAt j x hx 0 _ (by omega) rfl;obtain⟨u1,a1,b1⟩:=cellAt j x hx 1 _ (by omega) rfl;obtain⟨u2,a2,b2⟩:=cellAt j x hx 2 _ (by omega) rfl;simp only[VR]at b0 b1 b2;subst b0 b1 b2;exact⟨a0,a1,a2⟩
     ·rintro en w' ⟨rfl,hb'⟩;exact⟨m,_,rfl,Ext.refl m,hR.under hb',VR_str m _⟩
    ·cases e
   ·cases e
  ·cases e
 ·cases e
end Go.Shade
namespace Go.Proofs.YtmkjmfegaalcoaaGreat
open Go.Shade
abbrev tf :Table:=ext t3 19 textT
theorem stF :isT (kcallT Tryz.prog tf 5000 100 15 [] [])=true:=by kernel_rfl
end Go.Proofs.YtmkjmfegaalcoaaGreat
namespace Go.Proofs.YtmkjmfegaalcoaaGreat
open Go.RowKit
theorem bhm :Tryz.prog.follows .mixedOrders=true:=by kernel_rfl
def bldR :Go.Shelf.Ren:=⟨fun | 166=>58 | 167=>59 | 169=>60 | 240=>114 | 276=>143 | n=>n,fun | 37=>63 | 70=>91 | 72=>93 | 75=>95 | 80=>99 | 127=>170 | 164=>216 | n=>n,fun n=>n⟩
theorem bl166 :Lays.n166 Tryz.prog bldR where
 mixed:=bhm
 f166:=Tryz.func58.trans (congrArg some (by kernel_rfl))
 f240:=Tryz.func114.trans (congrArg some (by kernel_rfl))
 f276:=Tryz.func143.trans (congrArg some (by kernel_rfl))
 t0:=Tryz.underlying0
 a0:=Tryz.isAgg0
 z0:=Tryz.sizeOf0
 v0:=Tryz.zeroValue0
 t3:=Tryz.underlying3
 a3:=Tryz.isAgg3
 z3:=Tryz.sizeOf3
 v3:=Tryz.zeroValue3
 t4:=Tryz.underlying4
 a4:=Tryz.isAgg4
 z4:=Tryz.sizeOf4
 v4:=Tryz.zeroValue4
 t9:=Tryz.underlying9
 a9:=Tryz.isAgg9
 z9:=Tryz.sizeOf9
 v9:=Tryz.zeroValue9
 t20:=Tryz.underlying20
 a20:=Tryz.isAgg20
 z20:=Tryz.sizeOf20
 v20:=Tryz.zeroValue20
 t37:=Tryz.underlying63
 a37:=Tryz.isAgg63
 z37:=Tryz.sizeOf63
 v37:=Tryz.zeroValue63
 t70:=Tryz.underlying91
 a70:=Tryz.isAgg91
 z70:=Tryz.sizeOf91
 v70:=Tryz.zeroValue91
 t72:=Tryz.underlying93
 a72:=Tryz.isAgg93
 z72:=Tryz.sizeOf93
 v72:=Tryz.zeroValue93
 t75:=Tryz.underlying95
 a75:=Tryz.isAgg95
 z75:=Tryz.sizeOf95
 v75:=Tryz.zeroValue95
 t164:=Tryz.underlying216
 a164:=Tryz.isAgg216
 z164:=Tryz.sizeOf216
 v164:=Tryz.zeroValue216
theorem bl167 :Lays.n167 Tryz.prog bldR where
 mixed:=bhm
 f167:=Tryz.func59.trans (congrArg some (by kernel_rfl))
 f240:=Tryz.func114.trans (congrArg some (by kernel_rfl))
 f276:=Tryz.func143.trans (congrArg some (by kernel_rfl))
 t0:=Tryz.underlying0
 a0:=Tryz.isAgg0
 z0:=Tryz.sizeOf0
 v0:=Tryz.zeroValue0
 t4:=Tryz.underlying4
 a4:=Tryz.isAgg4
 z4:=Tryz.sizeOf4
 v4:=Tryz.zeroValue4
 t5:=Tryz.underlying5
 a5:=Tryz.isAgg5
 z5:=Tryz.sizeOf5
 v5:=Tryz.zeroValue5
 t9:=Tryz.underlying9
 a9:=Tryz.isAgg9
 z9:=Tryz.sizeOf9
 v9:=Tryz.zeroValue9
 t20:=Tryz.underlying20
 a20:=Tryz.isAgg20
 z20:=Tryz.sizeOf20
 v20:=Tryz.zeroValue20
 t37:=Tryz.underlying63
 a37:=Tryz.isAgg63
 z37:=Tryz.sizeOf63
 v37:=Tryz.zeroValue63
 t70:=Tryz.underlying91
 a70:=Tryz.isAgg91
 z70:=Tryz.sizeOf91
 v70:=Tryz.zeroValue91
 t72:=Tryz.underlying93
 a72:=Tryz.isAgg93
 z72:=Tryz.sizeOf93
 v72:=Tryz.zeroValue93
 t75:=Tryz.underlying95
 a75:=Tryz.isAgg95
 z75:=Tryz.sizeOf95
 v75:=Tryz.zeroValue95
 t164:=Tryz.underlying216
 a164:=Tryz.isAgg216
 z164:=Tryz.sizeOf216
 v164:=Tryz.zeroValue216
theorem bl169 :Lays.n169 Tryz.prog bldR where
 mixed:=bhm
 f169:=Tryz.func60.trans (congrArg some (by kernel_rfl))
 t0:=Tryz.underlying0
 a0:=Tryz.isAgg0
 z0:=Tryz.sizeOf0
 v0:=Tryz.zeroValue0
 t3:=Tryz.underlying3
 a3:=Tryz.isAgg3
 z3:=Tryz.sizeOf3
 v3:=Tryz.zeroValue3
 t9:=Tryz.underlying9
 a9:=Tryz.isAgg9
 z9:=Tryz.sizeOf9
 v9:=Tryz.zeroValue9
 t37:=Tryz.underlying63
 a37:=Tryz.isAgg63
 z37:=Tryz.sizeOf63
 v37:=Tryz.zeroValue63
 t70:=Tryz.underlying91
 a70:=Tryz.isAgg91
 z70:=Tryz.sizeOf91
 v70:=Tryz.zeroValue91
 t72:=Tryz.underlying93
 a72:=Tryz.isAgg93
 z72:=Tryz.sizeOf93
 v72:=Tryz.zeroValue93
 t127:=Tryz.underlying170
 a127:=Tryz.isAgg170
 z127:=Tryz.sizeOf170
 v127:=Tryz.zeroValue170
theorem blX :Builder.Extra Tryz.prog bldR where
 sizeBuilder:=by kernel_rfl
 liesBuilder:=by kernel_rfl
 t5:=Tryz.underlying5
 a5:=Tryz.isAgg5
 z5:=Tryz.sizeOf5
 v5:=Tryz.zeroValue5
 infoByte:=by kernel_rfl
 cellsByte:=by kernel_rfl
 sizeByte:=by kernel_rfl
 neB5:=by decide
theorem bWs (B b:Nat)(bs:List Value)(s:ByteArray)(w:World)(h:Lib.IsBuilderF 93 5 B b bs w)(hlen:bs.length+s.size<=140737488355328)(hBw:B<=w.heap.size) :
  Calls Tryz.prog 58 #[.pointer (some ⟨b,0,none⟩),.string s] w fun e w'=>e=.returned (.tuple #[.int .i64 s.size,.nilIface])/\(Lib.BuilderAtF 93 5 B b (.pointer (some ⟨b,0,none⟩)) (bs++Lib.strCells s) w'/\Below B w w'/\Lib.OthersKept 5 (some b) w w'):=Any.Builder_WriteString_k bl166 blX B b bs s w h hlen hBw
theorem bWb (B b:Nat)(bs:List Value)(c:Int)(w:World)(h:Lib.IsBuilderF 93 5 B b bs w)(hlen:bs.length+1<=140737488355328)(hBw:B<=w.heap.size) :
  Calls Tryz.prog 59 #[.pointer (some ⟨b,0,none⟩),.int .u8 c] w fun e w'=>e=.returned .nilIface/\(Lib.BuilderAtF 93 5 B b (.pointer (some ⟨b,0,none⟩)) (bs++[.int .u8 c]) w'/\Below B w w'/\Lib.OthersKept 5 (some b) w w'):=Any.Builder_WriteByte_k bl167 blX B b bs c w h hlen hBw
theorem bSt (B b:Nat)(l:List UInt8)(w:World)(h:Lib.IsBuilderF 93 5 B b (Lib.byteCells l) w)(hBw:B<=w.heap.size) :
  Calls Tryz.prog 60 #[.pointer (some ⟨b,0,none⟩)] w fun e w'=>e=.returned (.string ⟨l.toArray⟩)/\(Lib.IsBuilderF 93 5 B b (Lib.byteCells l) w'/\Below B w w'/\Lib.OthersKept 5 (some b) w w'):=Any.Builder_String_any_k bl169 blX B b l w h hBw
end Go.Proofs.YtmkjmfegaalcoaaGreat
namespace Go.Shade
theorem ub_val {x:Int}(h1:0<=x)(h2:x<256):((ub x).toNat:Int)=x:=by
 simp only[ub,UInt8.toNat_ofNat'];omega
theorem ub_mod (x:Int):((ub x).toNat:Int)=x % 256:=by
 simp only[ub,UInt8.toNat_ofNat'];omega
theorem rdText_app (l rest:List UInt8)(h:l.length<64):rdText (ub l.length::l++rest)=l/\TextN (ub l.length::l++rest)=l.length+1:=by
 have hn:(ub (l.length:Nat)).toNat=l.length:=by have:=ub_val (x:=(l.length:Nat)) (by omega) (by omega);omega
 have h0:(ub (l.length:Nat)::l++rest).getD 0 0=ub (l.length:Nat):=by simp
 constructor
 ·unfold rdText;rw[h0,hn,Nat.mod_eq_of_lt h];apply List.ext_getElem (by simp);intro i h1 h2;simp[List.getD_eq_getElem?_getD,List.getElem?_append,h2]
 ·unfold TextN;rw[h0,hn,Nat.mod_eq_of_lt h]
theorem rd_enc {c:Cl}(h:c.may=true)(rest:List UInt8):rdCl (c.enc++rest)=c/\(c.enc++rest).drop (rdN (c.enc++rest))=rest:=by
 obtain⟨⟨m1,m2⟩,⟨m3,m4⟩,⟨m5,m6⟩,⟨m7,m8⟩,⟨m9,m10⟩,m11,m12⟩:=c.may_iff.1 h;have he:c.enc++rest=[ub (c.op - 1),ub (c.fd+4),ub c.fl,ub ((c.n+256) / 256),ub (c.n+256),ub ((c.off+256) / 256),ub (c.off+256)]++(ub c.a.length::c.a++(ub c.b.length::c.b++rest)):=by
  simp[Cl.enc,List.append_assoc]
 have e1:rd1 (c.enc++rest)=ub c.a.length::c.a++(ub c.b.length::c.b++rest):=by rw[he];rfl
 obtain⟨t1,n1⟩:=rdText_app c.a (ub c.b.length::c.b++rest) (by omega);have e2:rd2 (c.enc++rest)=ub c.b.length::c.b++rest:=by
  unfold rd2;rw[e1,n1];simp
 obtain⟨t2,n2⟩:=rdText_app c.b rest (by omega);constructor
 ·have b0:=ub_val (x:=c.op - 1) (by omega) (by omega);have b1:=ub_val (x:=c.fd+4) (by omega) (by omega);have b2:=ub_val (x:=c.fl) (by omega) (by omega);have b3:=ub_val (x:=(c.n+256) / 256) (by omega) (by omega);have b4:=ub_mod (c.n+256);have b5:=ub_val (x:=(c.off+256) / 256) (by omega) (by omega);have b6:=ub_mod (c.off+256);have g:∀i,(c.enc++rest).getD i 0=([ub (c.op - 1),ub (c.fd+4),ub c.fl,ub ((c.n+256) / 256),ub (c.n+256),ub ((c.off+256) / 256),ub (c.off+256)]++(ub c.a.length::c.a++(ub c.b.length::c.b++rest))).getD i 0:=fun i=>by rw[he]
  have g0:(c.enc++rest).getD 0 0=ub (c.op - 1):=by rw[g];rfl
  have g1:(c.enc++rest).getD 1 0=ub (c.fd+4):=by rw[g];rfl
  have g2:(c.enc++rest).getD 2 0=ub c.fl:=by rw[g];rfl
  have g3:(c.enc++rest).getD 3 0=ub ((c.n+256) / 256):=by rw[g];rfl
  have g4:(c.enc++rest).getD 4 0=ub (c.n+256):=by rw[g];rfl
  have g5:(c.enc++rest).getD 5 0=ub ((c.off+256) / 256):=by rw[g];rfl
  have g6:(c.enc++rest).getD 6 0=ub (c.off+256):=by rw[g];rfl
  unfold rdCl;rw[g0,g1,g2,g3,g4,g5,g6,e1,e2,t1,t2,b0,b1,b2,b3,b4,b5,b6];obtain⟨op,fd,fl,n,off,a,b⟩:=c;simp only[Cl.mk.injEq,and_true];simp only at *;omega
 ·unfold rdN;rw[e1,e2,n1,n2];have hl:c.enc.length=7+(c.a.length+1)+(c.b.length+1):=by simp[Cl.enc];omega
  rw[←hl,List.drop_left]
end Go.Shade
namespace Go.Proofs.YtmkjmfegaalcoaaGreat
open Go.RowKit Go.Shade
theorem w64_mod (y:Int):wrap64 y % 256=y % 256:=by unfold wrap64;omega
theorem cat_size (a b:List UInt8):(({ data:=a.toArray }:ByteArray)++ { data:=b.toArray }).size=a.length+b.length:=by
 show((({ data:=a.toArray }:ByteArray)++ { data:=b.toArray }).data).size=_;rw[ByteArray.data_append];simp
theorem cat_cells (a b:List UInt8):Lib.strCells (({ data:=a.toArray }:ByteArray)++ { data:=b.toArray })=Lib.byteCells (a++b):=by
 rw[Lib.strCells_eq,ByteArray.data_append];simp
theorem textOf_len (l:List Ln):l.length<=(textOf l).length:=by
 induction l with
 | nil=>simp[textOf]
 | cons x l ih =>
  have e:textOf (x::l)=lnText x++textOf l:=rfl;rw[e,List.length_append,List.length_cons];have:1<=(lnText x).length:=by simp[lnText];omega
  omega
theorem ubCell (k:Int):Value.int IntKind.u8 (wrap64 (48+k) % 256)=Value.int IntKind.u8 ((ub (48+k)).toNat:Int):=by
 rw[w64_mod,ub_mod]
set_option maxHeartbeats 4000000 in
set_option maxRecDepth 1000000 in
theorem text_walk (bk o c:Nat)(l:List Ln)(w:World)(hbk:bk<w.heap.size)(h0:0<l.length)(hc:l.length<=c)(hT:(textOf l).length<=1000000)
  (hcell:∀(j:Nat) (x:Ln),l[j]? =some x->w.cell? ⟨bk,o+j*3,none⟩=some (encL x.path)/\w.cell? ⟨bk,o+j*3+1,none⟩=some (.int .i64 x.kind)/\w.cell? ⟨bk,o+j*3+2,none⟩=some (encL x.data)) :
  Calls Tryz.prog 19 #[.slice (some ⟨bk,o,none⟩) l.length c] w fun e w'=>e=.returned (encL (textOf l))/\Below w.heap.size w w':=by
 have hl6:=textOf_len l
 go_enter Tryz.func19,Tryz.ntmps19
 go_wp2
 go_loopw [8] (fun i wr=>∃k:Nat,k<=l.length/\i=.int .i64 k/\Lib.IsBuilderF 93 5 w.heap.size w.heap.size (Lib.byteCells (textOf (l.take k))) wr/\Below w.heap.size w wr) (fun i _=>l.length - (intOf i).toNat)
 case atStart=>exact⟨0,Nat.zero_le _,rfl,(Lib.IsBuilderF.of (Lib.fresh_isBuilder 93 5 w)),(Below.refl _ w).alloc (Nat.le_refl _) _⟩
 case round =>
  obtain⟨k,hk,rfl,hI,hb⟩:=hrel;by_cases hlt:k<l.length
  ·have hx:=List.getElem?_eq_getElem hlt;generalize l[k]=x at hx;obtain⟨q0,q1,q2⟩:=hcell k x hx;have c0:wr.cell? ⟨bk,o+k*3,none⟩=some (encL x.path):=(hb.cell (p:=⟨bk,o+k*3,none⟩) hbk).trans q0;have c1:wr.cell? ⟨bk,o+k*3+1,none⟩=some (.int .i64 x.kind):=(hb.cell (p:=⟨bk,o+k*3+1,none⟩) hbk).trans q1;have c2:wr.cell? ⟨bk,o+k*3+2,none⟩=some (encL x.data):=(hb.cell (p:=⟨bk,o+k*3+2,none⟩) hbk).trans q2;simp only[encL]at c0 c2;clear hcell q0 q1 q2;have hB0:w.heap.size<=wr.heap.size:=hb.size;have hI1:Lib.IsBuilderF 93 5 w.heap.size w.heap.size (Lib.byteCells (textOf (l.take k))) (wr.alloc (Obj.cells #[Value.string { data:=x.path.toArray },Value.int IntKind.i64 x.kind,Value.string { data:=x.data.toArray }] 32)):=hI.alloc _;have hle:=textOf_take_le l (k+1);have htk:l.take (k+1)=l.take k++[x]:=by rw[List.take_add_one,hx];rfl
   rw[htk,textOf_snoc,List.length_append]at hle;have hln:(lnText x).length=x.path.length+1+(1+(x.data.length+2)):=by simp[lnText];omega
   have hbl:w.heap.size<wr.heap.size:=by rcases hI with h | h<;>exact h.lt
   have hW0:(wr.alloc (Obj.cells #[Value.string { data:=x.path.toArray },Value.int IntKind.i64 x.kind,Value.string { data:=x.data.toArray }] 32)).heap[wr.heap.size]? =some (Obj.cells #[Value.string { data:=x.path.toArray },Value.int IntKind.i64 x.kind,Value.string { data:=x.data.toArray }] 32):=heap_alloc_new wr _;have hbW0:=hb.alloc hB0 (Obj.cells #[Value.string { data:=x.path.toArray },Value.int IntKind.i64 x.kind,Value.string { data:=x.data.toArray }] 32);have hsz0:w.heap.size<=(wr.alloc (Obj.cells #[Value.string { data:=x.path.toArray },Value.int IntKind.i64 x.kind,Value.string { data:=x.data.toArray }] 32)).heap.size:=hbW0.size
   go_wp2_with (go_at_call 58;refine(bWs w.heap.size w.heap.size _ _ _ hI1 ?c1 hsz0).mono ?_)
   case c1 =>
    rw[Lib.byteCells_length,show(#[0]:Array UInt8)=[0].toArray from rfl,cat_size,List.length_singleton];omega
   rintro e W1 ⟨rfl,h1,b1,k1⟩;have hW1:=k1 _ _ hW0 (by intro h;have:=Option.some.inj h;omega) (by intro c fz h;cases h);have d1:W1.cell? ⟨wr.heap.size,1,none⟩=some (.int .i64 x.kind):=by rw[Lib.cell_of_heap hW1];rfl
   have hbW1:=hbW0.trans b1;have hsz1:w.heap.size<=W1.heap.size:=hbW1.size
   go_wp2_with (go_at_call 59;refine(bWb w.heap.size w.heap.size _ _ _ (Or.inr h1) ?c2 hsz1).mono ?_)
   case c2 =>
    rw[show(#[0]:Array UInt8)=[0].toArray from rfl,cat_cells,←Lib.byteCells_append,Lib.byteCells_length,List.length_append,List.length_append,List.length_singleton];omega
   rintro e W2 ⟨rfl,h2,b2,k2⟩;have hW2:=k2 _ _ hW1 (by intro h;have:=Option.some.inj h;omega) (by intro c fz h;cases h);have d2:W2.cell? ⟨wr.heap.size,2,none⟩=some (.string ⟨x.data.toArray⟩):=by rw[Lib.cell_of_heap hW2];rfl
   have hbW2:=hbW1.trans b2;have hsz2:w.heap.size<=W2.heap.size:=hbW2.size
   go_wp2_with (go_at_call 58;refine(bWs w.heap.size w.heap.size _ _ _ (Or.inr h2) ?c3 hsz2).mono ?_)
   case c3 =>
    rw[show(#[0]:Array UInt8)=[0].toArray from rfl,show(#[0,10]:Array UInt8)=[0,10].toArray from rfl,cat_cells,cat_size,←Lib.byteCells_append,List.length_append,Lib.byteCells_length,List.length_append,List.length_append,List.length_singleton,List.length_singleton];simp only[List.length_cons,List.length_nil];omega
   rintro e W3 ⟨rfl,h3,b3,k3⟩;have hbW3:=hbW2.trans b3
   go_wp2
   go_roundw
   case rel =>
    refine⟨k+1,by omega,by go_num,?_,hbW3⟩;have e:Lib.byteCells (textOf (l.take k))++Lib.strCells (({ data:=x.path.toArray }:ByteArray)++ { data:= #[0] })++[Value.int IntKind.u8 (wrap64 (48+x.kind) % 256)]++Lib.strCells (({ data:=x.data.toArray }:ByteArray)++ { data:= #[0,10] })=Lib.byteCells (textOf (l.take (k+1))):=by
     rw[show(#[0]:Array UInt8)=[0].toArray from rfl,show(#[0,10]:Array UInt8)=[0,10].toArray from rfl,cat_cells,cat_cells,ubCell,show [Value.int IntKind.u8 ((ub (48+x.kind)).toNat:Int)]=Lib.byteCells [ub (48+x.kind)]from rfl,←Lib.byteCells_append,←Lib.byteCells_append,←Lib.byteCells_append,htk,textOf_snoc];unfold lnText;simp only[List.append_assoc]
    rw[←e];exact Or.inr h3
   case measure=>simp[intOf];omega
  ·have hke:k=l.length:=by omega
   subst hke;rw[List.take_length]at hI;have hsz:w.heap.size<=wr.heap.size:=hb.size
   go_wp2_with (go_at_call 60;refine(bSt w.heap.size w.heap.size (textOf l) _ hI hsz).mono ?_)
   rintro e W1 ⟨rfl,_,b1,_⟩
   go_wp2
   go_ret
   exact⟨rfl,hb.trans b1⟩
set_option maxHeartbeats 4000000 in
set_option maxRecDepth 1000000 in
theorem text_nil (p:Option Addr)(c:Nat)(w:World):Calls Tryz.prog 19 #[.slice p 0 c] w fun e w'=>e=.returned (encL [])/\Below w.heap.size w w':=by
 go_enter Tryz.func19,Tryz.ntmps19
 go_wp2
 go_loopw [8] (fun i wr=>i=.int .i64 0/\Lib.IsBuilderF 93 5 w.heap.size w.heap.size (Lib.byteCells []) wr/\Below w.heap.size w wr) (fun i _=>0 - (intOf i).toNat)
 case atStart=>exact⟨rfl,(Lib.IsBuilderF.of (Lib.fresh_isBuilder 93 5 w)),(Below.refl _ w).alloc (Nat.le_refl _) _⟩
 case round =>
  obtain⟨rfl,hI,hb⟩:=hrel;have hsz:w.heap.size<=wr.heap.size:=hb.size
  go_wp2_with (go_at_call 60;refine(bSt w.heap.size w.heap.size [] _ hI hsz).mono ?_)
  rintro e W1 ⟨rfl,_,b1,_⟩
  go_wp2
  go_ret
  exact⟨rfl,hb.trans b1⟩
theorem s_text (args:List IV)(H:Heap)(r:IV)(H':Heap)(e:textT args H=some (r,H')):SimCall Tryz.prog 19 args H r H' :=
 sound_textT text_nil (fun bk o c l w h1 h2 h3 h4 h5=>text_walk bk o c l w h1 h2 h3 h4 h5) args H r H' e
end Go.Proofs.YtmkjmfegaalcoaaGreat
