/- Part 2 of the proof. -/
import Derived.Test.YtmpdeebjhmgpgaaGreatDoorM1
import Derived.KernelRfl
import Derived.Test.YtmpdeebjhmgpgaaGreatDoorM0
import Derived.ProofKit
import Derived.Deep.Slices
import Derived.WalkKit
import Derived.OpenShut
import Derived.ShutString
import Derived.ChangeOld
set_option linter.all false
namespace Go.Shade
open Go.RowKit
variable {H : Heap} {R : Type} {cal : FuncId -> Bool} {n : Nat} {x : IV} {O : Oracle}
def lstV (H:Heap)(n:Nat)(a x:IV):Option (IV×Heap):=match lstore H n a x with
 | some H'=>some (.tuple [],H')
 | none=>none
def lupdV (H:Heap)(k:LS)(d i x:IV):Option (IV×Heap):=match lupdate H k d i x with
 | some H'=>some (.tuple [],H')
 | none=>none
def ldelV (H:Heap)(k:LS)(d i:IV):Option (IV×Heap):=match ldelete H k d i with
 | some H'=>some (.tuple [],H')
 | none=>none
def lmkMn (H:Heap)(x:IV):Option (IV×Heap):=match x with
 | .int .. =>some (.map H.length,H++[.map [] 0])
 | _=>none
def lmkS (H:Heap)(s b:Nat)(z:List IV)(l c:IV):Option (IV×Heap):=match l,c with
 | .int _ l,.int _ c=>if 0<=l/\l<=c/\b*c<=281474976710656/\c<=9223372036854775807 then some (.slice H.length 0 l.toNat c.toNat true s,H++[.row (zrep c.toNat z) false])else none
 | _,_=>none
def ls2b (H:Heap)(x:IV):Option (IV×Heap):=match x with
 | .str l=>some (.slice H.length 0 l.length l.length false 1,H++[.row (l.map fun b=>.int .u8 b.toNat) false])
 | _=>none
def lcpy (H:Heap)(s:Nat)(d x:IV):Option (IV×Heap):=match lcopy H s d x with
 | some (.val v,H')=>some (v,H')
 | _=>none
def lclrM (H:Heap)(d:IV):Option (IV×Heap):=match d with
 | .nilMap=>some (.tuple [],H)
 | .map r=>match H[r]? with
  | some (.map _ clock)=>some (.tuple [],H.set r (.map [] clock))
  | _=>none
 | _=>none
def lclrS (H:Heap)(z:List IV)(d:IV):Option (IV×Heap):=match d with
 | .nilSlice=>some (.tuple [],H)
 | .slice b o n lb _ _ =>
  if n=0 then some (.tuple [],H)else
  match H[b]? with
  | some (.row cs false)=>if o+(zrep n z).length<=cs.length then some (.tuple [],H.set b (.row (putAt cs o (zrep n z)) false))else none
  | _=>none
 | _=>none
def lxtV (H:Heap)(k:Nat)(as':List IV):Option (IV×Heap):=match ixt k as' with
 | some r=>some (r,H)
 | none=>none
def lcapV (H:Heap)(x:IV):Option (IV×Heap):=match lcap x with
 | some r=>some (r,H)
 | none=>none
def lappzV (H:Heap)(s b:Nat)(z:List IV)(d x:IV):Option (IV×Heap):=match lappz H s b z d x with
 | some (.val v,H')=>some (v,H')
 | _=>none
theorem lappz_val {s b:Nat}{z:List IV}{d:IV}{r:INext×Heap}(h:lappz H s b z d x=some r):∃v H',r=(.val v,H'):=by
 unfold lappz at h;split at h
 ·split at h
  ·split at h
   ·split at h
    ·cases h;exact⟨_,_,rfl⟩
    ·cases h
   ·split at h
    ·obtain⟨old,_,h⟩:=oB h;split at h
     ·cases h;exact⟨_,_,rfl⟩
     ·cases h
    ·cases h
   ·cases h
  ·cases h
 ·cases h
def linvV (O:Oracle)(H:Heap)(tbl:List (Nat×FuncId×Nat))(x:IV)(as':List IV):Option (IV×Heap):=match x with
 | .iface t v=>match invFind tbl t with
  | some f=>match irecv H f.2 v with
   | some w=>O f.1 (w::as') H
   | none=>none
  | none=>none
 | _=>none
def leV (cal:FuncId->Bool)(O:Oracle)(H:Heap)(E:Sg):LOp->Option (IV×Heap)
 | .box x=>lbox H (la E x)
 | .zbox z=>some (.ptr H.length 0,H++[.row z.cells false])
 | .bldS s n z parts=>lbldS H s n z (lps E parts)
 | .st n a x=>lstV H n (la E a) (la E x)
 | .mkM=>some (.map H.length,H++[.map [] 0])
 | .mkMn x=>lmkMn H (la E x)
 | .mkS s b z l c=>lmkS H s b z (la E l) (la E c)
 | .upd k d i x=>lupdV H k (la E d) (la E i) (la E x)
 | .s2b x=>ls2b H (la E x)
 | .app s b d x=>lapp H s b (la E d) (la E x)
 | .cpy s d x=>lcpy H s (la E d) (la E x)
 | .clrM d=>lclrM H (la E d)
 | .clrS z d=>lclrS H z (la E d)
 | .del k d i=>ldelV H k (la E d) (la E i)
 | .callF g args=>O g (las E args) H
 | .callV f args=>lcallV cal O H (la E f) (las E args)
 | .xt k args=>lxtV H k (las E args)
 | .cap x=>lcapV H (la E x)
 | .appz s b z d x=>lappzV H s b z (la E d) (la E x)
 | .inv tbl x args=>linvV O H tbl (la E x) (las E args)
 | _=>none
theorem lcopy_val {s:Nat}{d:IV}{r:INext×Heap}(h:lcopy H s d x=some r):∃v H',r=(.val v,H'):=by
 unfold lcopy at h;obtain⟨nx,_,h⟩:=oB h;obtain⟨nd,_,h⟩:=oB h;split at h
 ·cases h
 ·cases h;exact⟨_,_,rfl⟩
 ·split at h
  ·cases h;exact⟨_,_,rfl⟩
  ·obtain⟨new,_,h⟩:=oB h;split at h
   ·split at h
    ·obtain⟨cs',_,h⟩:=oB h
     cases h;exact⟨_,_,rfl⟩
    ·cases h
   ·cases h
 ·cases h
theorem leV_eq {E:Sg}{op:LOp}(h:isLE op=true):leV cal O H E op=lstepV O H (le cal H E op):=by
 cases op<;>simp only[isLE]at h<;>first | (cases h;done) | skip
 ·simp only[leV,le,lbox,ibox];split<;>rfl
 ·rfl
 ·rename_i s n z parts;simp only[leV,le,lbldS]
  cases ifill (fun i=>some (i*s,s)) (zrep n z) (lps E parts)with
  | none=>rfl
  | some c=>simp only[Option.bind_some];split<;>rfl
 ·rename_i n a x;simp only[leV,le,lstV]
  cases lstore H n (la E a) (la E x)<;>rfl
 ·rfl
 ·rename_i x;simp only[leV,le,lmkMn]
  cases la E x<;>rfl
 ·rename_i s b z l c;simp only[leV,le,lmkS]
  cases la E l<;>cases la E c<;>first | rfl | (simp only;split<;>rfl)
 ·rename_i k d i x;simp only[leV,le,lupdV]
  cases lupdate H k (la E d) (la E i) (la E x)<;>rfl
 ·rename_i x;simp only[leV,le,ls2b]
  cases la E x<;>rfl
 ·rename_i s b d x;simp only[leV,le,lapp]
  cases h:lappend H s b (la E d) (la E x)with
  | none=>rfl
  | some r=>obtain⟨v,H',rfl⟩:=lappend_val h;rfl
 ·rename_i s d x;simp only[leV,le,lcpy]
  cases h:lcopy H s (la E d) (la E x)with
  | none=>rfl
  | some r=>obtain⟨v,H',rfl⟩:=lcopy_val h;rfl
 ·rename_i d;simp only[leV,le,lclrM]
  cases la E d<;>first | rfl | skip
  rename_i r;simp only;generalize H[r]? =q;rcases q with _ | o
  ·rfl
  ·cases o<;>rfl
 ·rename_i z d;simp only[leV,le,lclrS]
  cases la E d<;>first | rfl | skip
  simp only;split
  ·rfl
  ·rename_i b o n lb ex sz hn;generalize H[b]? =q;rcases q with _ | o'
   ·rfl
   ·cases o' with
    | row cs ro=>cases ro<;>first | rfl | (simp only;split<;>rfl)
    | _=>rfl
 ·rename_i k d i;simp only[leV,le,ldelV]
  cases ldelete H k (la E d) (la E i)<;>rfl
 ·rfl
 ·rename_i f args;simp only[leV,le,lcallV]
  cases la E f with
  | func fn first cap =>
   cases fn with
   | func g=>simp only;split<;>rfl
   | _=>rfl
  | _=>rfl
 ·rename_i k args;simp only[leV,le,lxtV]
  cases ixt k (las E args)<;>rfl
 ·rename_i x;simp only[leV,le,lcapV]
  cases lcap (la E x)<;>rfl
 ·rename_i s b z d x;simp only[leV,le,lappzV]
  cases h:lappz H s b z (la E d) (la E x)with
  | none=>rfl
  | some r=>obtain⟨v,H',rfl⟩:=lappz_val h;rfl
 ·rename_i tbl x args;simp only[leV,le,linvV]
  cases la E x with
  | iface t v =>
   simp only
   cases invFind tbl t with
   | none=>rfl
   | some f=>simp only[Option.bind_some];cases irecv H f.2 v<;>rfl
  | _=>rfl
def gq (b:Bool)(x:Option IV):Option IV:=if b=true then x else some (.tuple [])
def ge (b:Bool)(H:Heap)(x:Option (IV×Heap)):Option (IV×Heap):=if b=true then x else some (.tuple [],H)
def cnd {R:Type}(v:IV)(a b:Option R):Option R:=match v with
 | .bool true=>a
 | .bool false=>b
 | _=>none
section
variable {R : Type}
def lopK (cal:FuncId->Bool)(O:Oracle)(p:LO)(E:Sg)(H:Heap)(k:IV->Heap->Option R):Option R :=
 match p.g with
 | none=>bif isLE p.op then ob (leV cal O H E p.op) fun r=>k r.1 r.2 else ob (lq H E p.op) fun v=>k v H
 | some (t,w)=>bif isLE p.op then ob (ge (isB (lk E t) w) H (leV cal O H E p.op)) fun r=>k r.1 r.2 else ob (gq (isB (lk E t) w) (lq H E p.op)) fun v=>k v H
def lopsK (cal:FuncId->Bool)(O:Oracle):List LO->Sg->Heap->(Sg->Heap->Option R)->Option R
 | [],E,H,k=>k E H
 | p::ps,E,H,k=>lopK cal O p E H fun v H'=>lopsK cal O ps (pput E p.d v) H' k
def ltraceK (cal:FuncId->Bool)(O:Oracle):List LO->Sg->Heap->(List LRec->Sg->Heap->Option R)->Option R
 | [],E,H,k=>k [] E H
 | p::ps,E,H,k=>lopK cal O p E H fun v H'=>ltraceK cal O ps (pput E p.d v) H' fun rs=>k (⟨p,E,H,v,H'⟩::rs)
def ckd (b:Bool)(x:Option R):Option R:=if b=true then x else none
abbrev KT (R:Type):=IX->Sg->Heap->Option R
def seqK (b:Sg->Heap->KT R->Option R)(k:KT R):KT R
 | .normal,E,H=>b E H k
 | .exit id,E,H=>k (.exit id) E H
 | .ret,E,H=>k .ret E H
def blockK (id:Nat)(k:KT R):KT R
 | .normal,E,H=>k .normal E H
 | .exit id',E,H=>bif Nat.beq id' id then k .normal E H else k (.exit id') E H
 | .ret,E,H=>k .ret E H
def itK (body:Sg->Heap->KT R->Option R):Nat->Sg->Heap->KT R->Option R
 | 0,_,_,_=>none
 | n+1,E,H,k=>body E H (seqK (itK body n) k)
def drwK (cal:FuncId->Bool)(O:Oracle)(l:List LO)(ps:List (Nat×Nat))(E:Sg)(H:Heap)(k:Sg->Heap->Option R):Option R :=
 match ps with
 | []=>lopsK cal O l E H k
 | p::ps=>ltraceK cal O l E H fun rs E H=>ckd ((p::ps).all (llooseOk rs)) (k E H)
def lxK (cal:FuncId->Bool)(O:Oracle)(n:Nat):LC->Sg->Heap->KT R->Option R
 | .skip,E,H,k=>k .normal E H
 | .reg l,E,H,k=>lopsK cal O l E H (k .normal)
 | .drw l ps,E,H,k=>drwK cal O l ps E H (k .normal)
 | .seq a b,E,H,k=>lxK cal O n a E H (seqK (lxK cal O n b) k)
 | .cond c a b,E,H,k=>cnd (la E c) (lxK cal O n a E H k) (lxK cal O n b E H k)
 | .block id a,E,H,k=>lxK cal O n a E H (blockK id k)
 | .loop a,E,H,k=>itK (lxK cal O n a) n E H k
 | .exit id,E,H,k=>k (.exit id) E H
 | .ret,E,H,k=>k .ret E H
 | .bad,_,_,_=>none
 | .alt _ _,_,_,_=>none
theorem itK_succ {b:Sg->Heap->KT R->Option R}{E:Sg}{k:KT R}:itK b (n+1) E H k=b E H (seqK (itK b n) k):=id rfl
def jn {A:Type}(f:A)(g:A->Option R):Option R:=g f
theorem lopK_eq (p:LO)(E:Sg)(H:Heap)(k:IV->Heap->Option R):lopK cal O p E H k=(lopV cal O p E H).bind fun r=>k r.1 r.2:=by
 unfold lopK lopV lstep
 cases p.g with
 | none =>
  simp only
  cases hE:isLE p.op with
  | true=>simp only[cond_true,if_true,leV_eq hE,ob]
  | false =>
   simp only[cond_false,Bool.false_eq_true,if_false,ob]
   cases lq H E p.op<;>rfl
 | some q =>
  obtain⟨t,w⟩:=q;simp only
  cases hE:isLE p.op with
  | true =>
   simp only[cond_true,if_true,ob,ge];split
   ·rw[leV_eq hE]
   ·rfl
  | false =>
   simp only[cond_false,Bool.false_eq_true,if_false,ob,gq];split
   ·cases lq H E p.op<;>rfl
   ·rfl
theorem lopsK_eq {cal:FuncId->Bool}{O:Oracle}:∀(l:List LO) (E:Sg) (H:Heap) (k:Sg->Heap->Option R),lopsK cal O l E H k=(lops cal O l E H).bind fun r=>k r.1 r.2
 | [],E,H,k=>rfl
 | p::ps,E,H,k=>by
  simp only[lopsK,lops,lopK_eq,Option.bind_assoc]
  congr 1
  funext r
  exact lopsK_eq ps _ _ k
theorem ltraceK_eq {cal:FuncId->Bool}{O:Oracle}:∀(l:List LO) (E:Sg) (H:Heap) (k:List LRec->Sg->Heap->Option R),ltraceK cal O l E H k=(ltrace cal O l E H).bind fun r=>k r.1 r.2.1 r.2.2
 | [],E,H,k=>rfl
 | p::ps,E,H,k=>by
  simp only[ltraceK,ltrace,lopK_eq,Option.bind_assoc]
  congr 1
  funext r
  rw[ltraceK_eq ps];rfl
theorem itK_eq {f:PBody}{b:Sg->Heap->(IX->Sg->Heap->Option R)->Option R}(h:∀E H k,b E H k=(f E H).bind fun r=>k r.1 r.2.1 r.2.2):∀(n:Nat) (E:Sg) (H:Heap) (k:IX->Sg->Heap->Option R),itK b n E H k=(piter f n E H).bind fun r=>k r.1 r.2.1 r.2.2
 | 0,E,H,k=>rfl
 | n+1,E,H,k=>by
  simp only[itK,piter,h,Option.bind_assoc]
  congr 1
  funext r
  obtain⟨x,σ',H'⟩:=r
  cases x with
  | normal=>exact itK_eq h n σ' H' k
  | exit id=>rfl
  | ret=>rfl
theorem lxK_eq :∀(c:LC) (E:Sg) (H:Heap) (k:IX->Sg->Heap->Option R),lxK cal O n c E H k=(lexec cal O n c E H).bind fun r=>k r.1 r.2.1 r.2.2:=by
 intro c
 induction c with
 | skip=>intro E H k;rfl
 | reg l=>intro E H k;simp only[lxK,lexec,lopsK_eq,Option.bind_assoc];rfl
 | drw l ps =>
  intro E H k
  cases ps with
  | nil=>simp only[lxK,lexec,drwK,ldraw,lopsK_eq,Option.bind_assoc];rfl
  | cons p ps =>
   simp only[lxK,lexec,drwK,ldraw,ltraceK_eq,Option.bind_assoc]
   congr 1
   funext q
   unfold ckd;split<;>rfl
 | seq a b iha ihb =>
  intro E H k;simp only[lxK,lexec,iha,Option.bind_assoc]
  congr 1
  funext r
  obtain⟨x,σ',H'⟩:=r
  cases x with
  | normal=>exact ihb σ' H' k
  | exit id=>rfl
  | ret=>rfl
 | cond c a b iha ihb =>
  intro E H k;simp only[lxK,lexec,cnd,iha,ihb]
  cases la E c with
  | bool t=>cases t<;>rfl
  | _=>rfl
 | block id a ih =>
  intro E H k;simp only[lxK,lexec,ih,Option.bind_assoc]
  congr 1
  funext r
  obtain⟨x,σ',H'⟩:=r
  cases x with
  | normal=>rfl
  | exit id' =>
   simp only[blockK];by_cases e:id'=id
   ·subst e;rw[if_pos rfl,show Nat.beq id' id'=true from Nat.beq_refl id'];rfl
   ·rw[if_neg e];have:Nat.beq id' id=false:=by
     cases hb:Nat.beq id' id with
     | false=>rfl
     | true=>exact absurd (Nat.eq_of_beq_eq_true hb) e
    rw[this];rfl
  | ret=>rfl
 | loop a ih =>
  intro E H k;simp only[lxK,lexec];exact itK_eq ih n E H k
 | exit id=>intro E H k;rfl
 | ret=>intro E H k;rfl
 | bad=>intro E H k;rfl
 | alt a b _ _=>intro E H k;rfl
end
def resK :List LRes->List IV->Sg->Heap->Option (IV×Heap)
 | [],acc,E,H=>some (pack acc.reverse,H)
 | .tmp t::rs,acc,E,H=>resK rs (lk E t::acc) E H
 | .cell1 t::rs,acc,E,H=>ob (lload1 H (lk E t)) fun v=>resK rs (v::acc) E H
 | .celln t n::rs,acc,E,H=>ob (lloadn H n (lk E t)) fun v=>resK rs (v::acc) E H
theorem resK_eq :∀(rs:List LRes) (acc:List IV) (E:Sg) (H:Heap),resK rs acc E H=(lresults E H rs).bind fun vs=>some (pack (acc.reverse++vs),H)
 | [],acc,E,H=>by simp[resK,lresults]
 | r::rs,acc,E,H=>by
  cases r<;>simp only[resK,lresults,lresult,ob,Option.bind_some,Option.bind_assoc,resK_eq rs,List.reverse_cons,List.append_assoc,List.cons_append,List.nil_append]
def endK (rs:List LRes):IX->Sg->Heap->Option (IV×Heap)
 | .exit _,_,_=>none
 | .normal,E,H=>resK rs [] E H
 | .ret,E,H=>resK rs [] E H
def lrunK (cal:FuncId->Bool)(O:Oracle)(n:Nat)(lf:LFun)(args:List IV)(H:Heap):Option (IV×Heap):=lxK cal O n lf.pc (initFrom 0 args) H (endK lf.rs)
theorem lrunK_le {lf:LFun}{args:List IV}{r:IV×Heap}(h:lrunK cal O n lf args H=some r):lrun cal O lf args H=some r:=by
 unfold lrunK at h;rw[lxK_eq]at h;obtain⟨q,h1,h2⟩:=oB h;unfold lrun;rw[lxd_some.2 ⟨n,h1⟩];obtain⟨x,E,H'⟩:=q
 cases x with
 | normal=>simp only[endK,resK_eq]at h2;simpa[lback]using h2
 | ret=>simp only[endK,resK_eq]at h2;simpa[lback]using h2
 | exit id=>simp[endK]at h2
section
variable {R : Type}
def kN (f:Sg->Heap->Option R)(k:KT R):KT R
 | .normal,E,H=>f E H
 | .exit id,E,H=>k (.exit id) E H
 | .ret,E,H=>k .ret E H
def kE (id:Nat)(f:Sg->Heap->Option R)(k:KT R):KT R
 | .normal,E,H=>k .normal E H
 | .exit id',E,H=>bif Nat.beq id' id then f E H else k (.exit id') E H
 | .ret,E,H=>k .ret E H
def kR (f:Sg->Heap->Option R)(k:KT R):KT R
 | .normal,E,H=>k .normal E H
 | .exit id,E,H=>k (.exit id) E H
 | .ret,E,H=>f E H
theorem kN_mk {f:Sg->Heap->Option R}{k k':KT R}(h:∀E H,k .normal E H=f E H)(e:k=k'):k=kN f k':=by
 subst e;funext x E H;cases x<;>first | exact h E H | rfl
theorem kE_mk {id:Nat}{f:Sg->Heap->Option R}{k k':KT R}(h:∀E H,k (.exit id) E H=f E H)(e:k=k'):k=kE id f k':=by
 subst e;funext x E H
 cases x with
 | exit id' =>
  simp only[kE]
  cases hb:Nat.beq id' id with
  | false=>rfl
  | true=>have:=Nat.eq_of_beq_eq_true hb;subst this;exact h E H
 | _=>rfl
theorem kR_mk {f:Sg->Heap->Option R}{k k':KT R}(h:∀E H,k .ret E H=f E H)(e:k=k'):k=kR f k':=by
 subst e;funext x E H;cases x<;>first | exact h E H | rfl
theorem seqK_mk {b:Sg->Heap->KT R->Option R}{k:KT R}{g:Sg->Heap->Option R}(h:∀E H,b E H k=g E H):seqK b k=kN g k:=by
 funext x E H;cases x<;>first | exact h E H | rfl
end
def lzbox (H:Heap)(z:IV):Option (IV×Heap):=some (.ptr H.length 0,H++[.row z.cells false])
def lmkM (H:Heap):Option (IV×Heap):=some (.map H.length,H++[.map [] 0])
def lbld (z:List IV)(parts:List (Nat×Nat×IV)):Option IV:=(lfill z parts).bind fun r=>some (.agg r)
def lasrt (t:TypeId)(z:IV)(ok:Bool)(x:IV):Option IV:=match x with
 | .nilIface=>if ok then some (.tuple [z,.bool false])else none
 | .iface t' v=>if t'=t then some (if ok then .tuple [v,.bool true]else v)else if ok then some (.tuple [z,.bool false])else none
 | _=>none
theorem gq_true {x:Option IV}:gq true x=x:=id rfl
theorem gq_false {x:Option IV}:gq false x=some (.tuple []):=id rfl
theorem ge_true {x:Option (IV×Heap)}:ge true H x=x:=id rfl
theorem ge_false {x:Option (IV×Heap)}:ge false H x=some (.tuple [],H):=id rfl
theorem cnd_true {a b:Option R}:cnd (.bool true) a b=a:=id rfl
theorem cnd_false {a b:Option R}:cnd (.bool false) a b=b:=id rfl
@[congr] theorem gq_congr {b b' : Bool} {x : Option IV} (h : b = b') : gq b x = gq b' x := by rw [h]
@[congr] theorem ge_congr {b b' : Bool} {x : Option (IV × Heap)} (h : b = b') : ge b H x = ge b' H x := by rw [h]
@[congr] theorem cnd_congr {v v' : IV} {a b : Option R} (h : v = v') : cnd v a b = cnd v' a b := by rw [h]
theorem jn_eq {A:Type}{f:A}{g:A->Option R}:jn f g=g f:=id rfl
theorem lzbox_eq {z:IV}:lzbox H z=some (.ptr H.length 0,H++[.row z.cells false]):=id rfl
theorem cells_agg {cs:List IV}:IV.cells (.agg cs)=cs:=id rfl
theorem cells_one {v:IV}(h:v.one=true):v.cells=[v]:=by cases v<;>first | rfl | (simp[IV.one]at h)
theorem lmkM_eq :lmkM H=some (.map H.length,H++[.map [] 0]):=id rfl
theorem lstV_ptr {b o:Nat}:lstV H n (.ptr b o) x=ob (putO (H[b]?) b o n x H) fun H'=>some (.tuple [],H'):=by
 unfold lstV;rw[lstore_ptr]
 cases putO (H[b]?) b o n x H<;>rfl
theorem ckd_true {x:Option R}:ckd true x=x:=id rfl
attribute [go_sem ↓] gq_true gq_false ge_true ge_false cnd_true cnd_false
attribute [go_sem] lzbox_eq cells_agg cells_one lmkM_eq lstV_ptr Nat.zero_add Nat.add_zero ckd_true
end Go.Shade
namespace Go.Shade
variable {B C b s : Nat} {H H' : Heap} {cs new : List IV} {v : IV}
def Buf (B:Nat)(s:Nat)(H:Heap)(v:IV)(cs:List IV):Prop :=
 (v=.nilSlice/\cs=[])∨∃r n ex,v=.slice r 0 n n ex s/\B<=r/\H[r]? =some (.row cs false)/\cs.length=n*s
def Keep (B:Nat)(H H':Heap):Prop:=(∀i,i<B->H'[i]? =H[i]?)/\H.length<=H'.length
theorem Keep.refl (B:Nat)(H:Heap):Keep B H H:=⟨fun _ _=>rfl,Nat.le_refl _⟩
theorem Keep.trans {B:Nat}{H H' H'':Heap}(h:Keep B H H')(k:Keep B H' H''):Keep B H H'':=⟨fun i hi=>(k.1 i hi).trans (h.1 i hi),Nat.le_trans h.2 k.2⟩
theorem Keep.mono (h:Keep B H H')(hc:C<=B):Keep C H H':=⟨fun i hi=>h.1 i (by omega),h.2⟩
theorem Keep.push (H X:Heap)(h:B<=H.length):Keep B H (H++X):=⟨fun i hi=>List.getElem?_append_left (by omega),by simp⟩
theorem Keep.set {B:Nat}(H:Heap){r:Nat}(o:IObj)(h:B<=r):Keep B H (H.set r o):=⟨fun i hi=>List.getElem?_set_ne (by omega),by simp⟩
theorem Keep.get (h:Keep B H H'){i:Nat}{o:IObj}(hi:i<B)(e:H[i]? =some o):H'[i]? =some o:=(h.1 i hi).trans e
theorem Buf.keep (h:Buf B s H v cs)(k:Keep C H H')(hc:∀r n m ex,v=.slice r 0 n m ex s->r<C):Buf B s H' v cs:=by
 rcases h with h | ⟨r,n,ex,rfl,h1,h2,h3⟩
 ·exact .inl h
 ·exact .inr ⟨r,n,ex,rfl,h1,k.get (hc r n n ex rfl) h2,h3⟩
theorem Buf.len (h:Buf B s H v cs)(hs:0<s):∃n,xlen v=some n/\cs.length=n*s/\llen H .slice v=some (.int .i64 n):=by
 rcases h with⟨rfl,rfl⟩ | ⟨r,n,ex,rfl,h1,h2,h3⟩
 ·exact⟨0,rfl,by simp,rfl⟩
 ·exact⟨n,rfl,h3,rfl⟩
theorem Buf.cells (h:Buf B s H v cs){n:Nat}(hn:xlen v=some n):lsl H s v n=some cs:=by
 rcases h with⟨rfl,rfl⟩ | ⟨r,k,ex,rfl,h1,h2,h3⟩
 ·simp only[xlen,Option.some.injEq]at hn;subst hn;rfl
 ·simp only[xlen,Option.some.injEq]at hn;subst hn;simp only[lsl,Nat.le_refl,if_true];split
  ·rename_i e;subst e;simp at h3;subst h3;rfl
  ·simp only[irow,h2,Nat.zero_add,h3,Nat.le_refl,if_true,List.drop_zero];rw[List.take_of_length_le (by omega)]
theorem lfresh_eq {old:List IV}{k:Nat}(h1:k*b<=140737488355328)(h2:(old++new).length=k*s):lfresh s b H old new k=some (.val (.slice H.length 0 k k false s),H++[.row (old++new) false]):=by
 unfold lfresh;rw[if_pos ⟨h1,h2⟩]
theorem app_buf {x:IV}{k:Nat}(h:Buf B s H v cs)(hB:B<=H.length)(hs:0<s)(hx:xlen x=some k)(hc:lxcells H s x k=some new)(hl:new.length=k*s)(h1:new.all IV.one=true)(hb:(cs.length+new.length)*b<=140737488355328) :
  ∃v' H',lapp H s b v x=some (v',H')/\Buf B s H' v' (cs++new)/\Keep B H H':=by
 unfold lapp lappend;rw[hx];simp only[Option.bind_some];by_cases h0:k=0
 ·subst h0;have hnew:new=[]:=by simp at hl;exact hl
  subst hnew;simp only[if_true,List.append_nil];rcases h with⟨rfl,rfl⟩ | ⟨r,n,ex,rfl,g1,g2,g3⟩
  ·exact⟨_,_,rfl,.inl ⟨rfl,rfl⟩,Keep.refl _ _⟩
  ·exact⟨_,_,rfl,.inr ⟨r,n,ex,rfl,g1,g2,g3⟩,Keep.refl _ _⟩
 ·rw[if_neg h0,hc];simp only[Option.bind_some];rw[if_pos ⟨hl,h1⟩];rcases h with⟨rfl,rfl⟩ | ⟨r,n,ex,rfl,g1,g2,g3⟩
  ·have hk:k*b<=140737488355328:=by
    refine Nat.le_trans (Nat.mul_le_mul_right b ?_) hb;simp only[List.length_nil,Nat.zero_add,hl];exact Nat.le_mul_of_pos_right k hs
   simp only[lfresh_eq (old:=[]) hk (by simpa using hl)];exact⟨_,_,rfl,.inr ⟨H.length,k,false,rfl,hB,by simp,by simpa using hl⟩,Keep.push H _ hB⟩
  ·have hold:lsl H s (.slice r 0 n n ex s) n=some cs:=Buf.cells (B:=B) (.inr ⟨r,n,ex,rfl,g1,g2,g3⟩) rfl;have hlen:(cs++new).length=(n+k)*s:=by simp only[List.length_append,g3,hl,Nat.add_mul]
   have hk:(n+k)*b<=140737488355328:=by
    refine Nat.le_trans (Nat.mul_le_mul_right b ?_) hb;rw[g3,hl,←Nat.add_mul];exact Nat.le_mul_of_pos_right (n+k) hs
   simp only;rw[if_neg (by omega),hold];simp only[Option.bind_some]
   cases ex with
   | true =>
    simp only[if_true,lfresh_eq (H:=H) hk hlen];exact⟨_,_,rfl,.inr ⟨H.length,n+k,false,rfl,hB,by simp,hlen⟩,Keep.push H _ hB⟩
   | false =>
    simp only[Bool.false_eq_true,if_false,g2,if_true,lfresh_eq (H:=H.set r .dead) hk hlen];refine⟨_,_,rfl,.inr ⟨(H.set r .dead).length,n+k,false,rfl,by simpa using hB,by simp,hlen⟩,?_⟩;exact(Keep.set H .dead g1).trans (Keep.push _ _ (by simpa using hB))
def bytes (l:List UInt8):List IV:=l.map fun b=>.int .u8 b.toNat
theorem bytes_length (l:List UInt8):(bytes l).length=l.length:=by simp[bytes]
theorem bytes_one (l:List UInt8):(bytes l).all IV.one=true:=by simp[bytes,IV.one]
theorem bytes_append (a b:List UInt8):bytes (a++b)=bytes a++bytes b:=by simp[bytes]
theorem ibytes_bytes :∀(l:List UInt8),ibytes (bytes l)=some l
 | []=>rfl
 | b::l=>by
  have:=ibytes_bytes l;simp only[bytes,List.map_cons,ibytes]at this ⊢;rw[this];simp
theorem bytes_inB (l:List UInt8)(n:Nat):inBs n (bytes l)=true:=by
 induction l with
 | nil=>rfl
 | cons b l ih=>simp only[bytes,List.map_cons,inBs,inB,Bool.true_and]at ih ⊢;exact ih
theorem lxcells_str {l:List UInt8}:lxcells H 1 (.str l) l.length=some (bytes l):=by simp[lxcells,bytes]
theorem app_str {l:List UInt8}(h:Buf B 1 H v cs)(hB:B<=H.length)(hb:(cs.length+l.length)*b<=140737488355328):∃v' H',lapp H 1 b v (.str l)=some (v',H')/\Buf B 1 H' v' (cs++bytes l)/\Keep B H H' :=
 app_buf h hB (by omega) rfl lxcells_str (by simp[bytes_length]) (bytes_one l) (by rw[bytes_length];exact hb)
theorem app_own {x:IV}(h:Buf B s H v cs)(hB:B<=H.length)(hs:0<s)(hx:Buf C s H x new)(h1:new.all IV.one=true)(hb:(cs.length+new.length)*b<=140737488355328):∃v' H',lapp H s b v x=some (v',H')/\Buf B s H' v' (cs++new)/\Keep B H H':=by
 obtain⟨n,h2,h3,_⟩:=hx.len hs;refine app_buf h hB hs h2 ?_ h3 h1 hb;have:lxcells H s x n=lsl H s x n:=by
  rcases hx with⟨rfl,_⟩ | ⟨r,k,ex,rfl,_⟩<;>rfl
 rw[this];exact hx.cells h2
end Go.Shade
namespace Go.Shade
def Wp {α:Type}(x:Option α)(Q:α->Prop):Prop:=∃a,x=some a/\Q a
section
variable {α β : Type} {Q : β -> Prop}
theorem Wp.ret {a:β}(h:Q a):Wp (some a) Q:=⟨a,rfl,h⟩
theorem Wp.ob {x:Option α}{f:α->Option β}(h:Wp x fun a=>Wp (f a) Q):Wp (Shade.ob x f) Q:=by
 obtain⟨a,rfl,h2⟩:=h;exact h2
theorem Wp.of {x:Option α}{f:α->Option β}{a:α}(h:x=some a)(k:Wp (f a) Q):Wp (Shade.ob x f) Q:=by
 subst h;exact k
theorem Wp.call {x:Option α}{f:α->Option β}{R:α->Prop}(h:Wp x R)(k:∀a,R a->Wp (f a) Q):Wp (Shade.ob x f) Q:=by
 obtain⟨a,rfl,h2⟩:=h;exact k a h2
theorem Wp.mono {x:Option β}{R:β->Prop}(h:Wp x R)(k:∀a,R a->Q a):Wp x Q:=by
 obtain⟨a,rfl,h2⟩:=h;exact⟨a,rfl,k a h2⟩
theorem Wp.dec {p:Prop}[Decidable p]{x y:Option β}(h1:p->Wp x Q)(h2:¬p->Wp y Q):Wp (cnd (.bool (decide p)) x y) Q:=by
 by_cases hp:p
 ·rw[decide_eq_true hp,cnd_true];exact h1 hp
 ·rw[decide_eq_false hp,cnd_false];exact h2 hp
theorem Wp.ndec {p:Prop}[Decidable p]{x y:Option β}(h1:¬p->Wp x Q)(h2:p->Wp y Q):Wp (cnd (.bool (!decide p)) x y) Q:=by
 by_cases hp:p
 ·rw[decide_eq_true hp,Bool.not_true,cnd_false];exact h2 hp
 ·rw[decide_eq_false hp,Bool.not_false,cnd_true];exact h1 hp
end
theorem wrap_i64 {x:Int}(h1: -9223372036854775808<=x)(h2:x<9223372036854775808):IntKind.wrap .i64 x=x:=by
 have h:IntKind.wrap .i64 x=if x % 18446744073709551616 ≥ 9223372036854775808 then x % 18446744073709551616 - 18446744073709551616 else x % 18446744073709551616:=by
  unfold IntKind.wrap;simp[IntKind.bits,IntKind.signed]
 rw[h];split<;>omega
end Go.Shade
namespace Go.Shade
def queueNewS (cal:CB)(O:Oracle)(N:Nat)(H:Heap):OH :=
 ob (lbld [.nilSlice,(.int .i64 0)] []) fun t1 =>ob (lbox H t1) fun r2 =>some (r2.1,r2.2)
def QqPushS (cal:CB)(O:Oracle)(N:Nat)(f0:FuncId)(v0 v1 v2:IV)(H:Heap):OH :=
 ob (lchk v0) fun t1 =>ob (loff t1 0) fun t2 =>ob (some (.iface 196 t2)) fun t3 =>ob (lchk v0) fun t4 =>ob (loff t4 1) fun t5 =>ob (lload1 H t5) fun t6 =>ob (lbld [(.int .i64 0),(.int .i64 0),(.int .i64 0)] [(0,1,v1),(1,1,v2),(2,1,t6)]) fun t7 =>ob (some (.iface 198 t7)) fun t8 =>ob (O f0 [t3,t8] H) fun r9 =>ob (lchk v0) fun t10 =>ob (loff t10 1) fun t11 =>ob (lload1 r9.2 t11) fun t12 =>ob (lbin .add t12 (.int .i64 1)) fun t13 =>ob (lchk v0) fun t14 =>ob (loff t14 1) fun t15 =>ob (lstV r9.2 1 t15 t13) fun r16 =>some ((.tuple []),r16.2)
def QisLenS (cal:CB)(O:Oracle)(N:Nat)(v0:IV)(H:Heap):OH :=
 ob (llen H .slice v0) fun t1 =>some (t1,H)
def QisLessS (cal:CB)(O:Oracle)(N:Nat)(f0:FuncId)(v0 v1 v2:IV)(H:Heap):OH :=
 ob (lix 3 v0 v1) fun t1 =>ob (lloadn H 3 t1) fun t2 =>ob (lix 3 v0 v2) fun t3 =>ob (lloadn H 3 t3) fun t4 =>ob (O f0 [t2,t4] H) fun r5 =>some (r5.1,r5.2)
def QisSwapS (cal:CB)(O:Oracle)(N:Nat)(v0 v1 v2:IV)(H:Heap):OH :=
 ob (lix 3 v0 v2) fun t1 =>ob (lloadn H 3 t1) fun t2 =>ob (lix 3 v0 v1) fun t3 =>ob (lloadn H 3 t3) fun t4 =>ob (lix 3 v0 v1) fun t5 =>ob (lstV H 3 t5 t2) fun r6 =>ob (lix 3 v0 v2) fun t7 =>ob (lstV r6.2 3 t7 t4) fun r8 =>some ((.tuple []),r8.2)
def QisPushS (cal:CB)(O:Oracle)(N:Nat)(v0 v1:IV)(H:Heap):OH :=
 ob (lchk v0) fun t1 =>ob (lload1 H t1) fun t2 =>ob (lasrt 198 (.agg [(.int .i64 0),(.int .i64 0),(.int .i64 0)]) false v1) fun t3 =>ob (lbldS H 3 1 [(.int .i64 0),(.int .i64 0),(.int .i64 0)] [(0,t3)]) fun r4 =>ob (lapp r4.2 3 24 t2 r4.1) fun r5 =>ob (lchk v0) fun t6 =>ob (lstV r5.2 1 t6 r5.1) fun r7 =>
  ckd ((!(true)||((!(false))&&ivo (lload1 H t1) t2&&ivo (lload1 r4.2 t1) t2))&&true) <|
 some ((.tuple []),r7.2)
def QisPopS (cal:CB)(O:Oracle)(N:Nat)(v0:IV)(H:Heap):OH :=
 ob (lchk v0) fun t1 =>ob (lload1 H t1) fun t2 =>ob (llen H .slice t2) fun t3 =>ob (lbin .sub t3 (.int .i64 1)) fun t4 =>ob (lchk v0) fun t5 =>ob (lload1 H t5) fun t6 =>ob (lix 3 t6 t4) fun t7 =>ob (lloadn H 3 t7) fun t8 =>ob (lzbox H (.agg [(.int .i64 0),(.int .i64 0),(.int .i64 0)])) fun r9 =>ob (lstV r9.2 3 r9.1 t8) fun r10 =>ob (lchk v0) fun t11 =>ob (lload1 r10.2 t11) fun t12 =>ob (lslice r10.2 (.slice 3) t12 none (some t4) none) fun t13 =>ob (lchk v0) fun t14 =>ob (lstV r10.2 1 t14 t13) fun r15 =>ob (lloadn r15.2 3 r9.1) fun t16 =>ob (some (.iface 198 t16)) fun t17 =>some (t17,r15.2)
def cHpPushS (cal:CB)(O:Oracle)(N:Nat)(f0:FuncId)(v0 v1:IV)(H:Heap):OH :=
 ob (linvV O H [(104,(90,0)),(196,(207,0))] v0 [v1]) fun r1 =>ob (linvV O r1.2 [(91,(198,0)),(104,(62,0)),(133,(121,0)),(178,(117,0)),(196,(117,1))] v0 []) fun r2 =>ob (lbin .sub r2.1 (.int .i64 1)) fun t3 =>ob (O f0 [v0,t3] r2.2) fun r4 =>some ((.tuple []),r4.2)
def cHpPopS (cal:CB)(O:Oracle)(N:Nat)(f0:FuncId)(v0:IV)(H:Heap):OH :=
 ob (linvV O H [(91,(198,0)),(104,(62,0)),(133,(121,0)),(178,(117,0)),(196,(117,1))] v0 []) fun r1 =>ob (lbin .sub r1.1 (.int .i64 1)) fun t2 =>ob (linvV O r1.2 [(178,(204,0)),(196,(204,1))] v0 [(.int .i64 0),t2]) fun r3 =>ob (O f0 [v0,(.int .i64 0),t2] r3.2) fun r4 =>ob (linvV O r4.2 [(104,(96,0)),(196,(206,0))] v0 []) fun r5 =>some (r5.1,r5.2)
def X6K1 :LC:=.block 1 (.seq (.reg [ qM 5 1,qO 6 (.bin .sub (.t 5) (k6 1)),qO 7 (.bin .quo (.t 6) (k6 2)),qM 4 7]) (.seq (.seq (.reg [ qM 8 4,qM 9 1,qO 10 (.bin .eql (.t 8) (.t 9)),qM 11 10,⟨(some 12),(.mv (.t 0)),(some (11,false))⟩,⟨(some 13),(.mv (.t 1)),(some (11,false))⟩,⟨(some 14),(.mv (.t 4)),(some (11,false))⟩,⟨(some 15),(.inv [(178,(203,0)),(196,(203,1))] (.t 12) [(.t 13),(.t 14)]),(some (11,false))⟩,⟨(some 16),(.un .not (.t 15)),(some (11,false))⟩,qO 17 (.pick (.t 11) (.k (.bool true)) (.t 16))]) (.cond (.t 17) (.exit 0) .skip)) (.seq (.reg [ qM 18 0,qM 19 4,qM 20 1,qO 21 (.inv [(178,(204,0)),(196,(204,1))] (.t 18) [(.t 19),(.t 20)])]) (.reg [ qM 22 4,qM 1 22]))))
def cHpUpC0 :LC:=.loop X6K1
def cHpUpC1 :LC:=.block 0 cHpUpC0
def cHpUpC0S (cal:CB)(O:Oracle)(N:Nat)(gE0:Heap->OH):Nat->IV->IV->Heap->OH
 | 0,_,_,_=>none
 | n+1,v0,v1,H =>ob (lbin .sub v1 (.int .i64 1)) fun t1 =>ob (lbin .quo t1 (.int .i64 2)) fun t2 =>ob (lbin .eql t2 v1) fun t3 =>ob (gq (isB t3 false) (some v0)) fun t4 =>ob (gq (isB t3 false) (some v1)) fun t5 =>ob (gq (isB t3 false) (some t2)) fun t6 =>ob (ge (isB t3 false) H (linvV O H [(178,(203,0)),(196,(203,1))] t4 [t5,t6])) fun r7 =>ob (gq (isB t3 false) (iun .not r7.1)) fun t8 =>ob (lpick t3 (.bool true) t8) fun t9 =>cnd t9
  (gE0 r7.2)
  (ob (linvV O r7.2 [(178,(204,0)),(196,(204,1))] v0 [t2,v1]) fun r10 =>
   cHpUpC0S cal O N gE0 n v0 t2 r10.2)
theorem cHpUpC0Eq (cal:CB)(O:Oracle)(N:Nat){k:KT (IV×Heap)}(gE0:Heap->OH)(hgE0:∀E H,k (.exit 0) E H=gE0 H):∀(n:Nat) (E:Sg) (H:Heap),itK (lxK cal O N X6K1) n E H k=cHpUpC0S cal O N gE0 n (lk E 0) (lk E 1) H:=by
 have hk:k=(kE 0 (fun E H=>gE0 H) k):=(kE_mk hgE0 rfl);intro n
 induction n with
 | zero=>intro E H;rfl
 | succ n ih =>
  intro E H;rw[itK_succ,seqK_mk (g:=fun E H=>cHpUpC0S cal O N gE0 n (lk E 0) (lk E 1) H) ih,hk];kernel_rfl
def cHpUpC1S (cal:CB)(O:Oracle)(N:Nat)(gN:Heap->OH)(v0 v1:IV)(H:Heap):OH :=
  cHpUpC0S cal O N (fun H=>gN H) N v0 v1 H
theorem cHpUpC1Eq (cal:CB)(O:Oracle)(N:Nat){k:KT (IV×Heap)}(gN:Heap->OH)(hgN:∀E H,k .normal E H=gN H):∀(E:Sg) (H:Heap),lxK cal O N cHpUpC1 E H k=cHpUpC1S cal O N gN (lk E 0) (lk E 1) H:=by
 have hk:k=(kN (fun E H=>gN H) k):=(kN_mk hgN rfl);intro E H;rw[hk];show lxK cal O N cHpUpC0 E H (blockK 0 (kN (fun E H=>gN H) k))=_;exact cHpUpC0Eq cal O N (k:=(blockK 0 (kN (fun E H=>gN H) k))) gN (fun _ _=>rfl) N E H
def cHpUp :LFun:=⟨cHpUpC1,[],23⟩
def cHpUpS (cal:CB)(O:Oracle)(N:Nat)(v0 v1:IV)(H:Heap):OH :=
  cHpUpC1S cal O N (fun H=>some ((.tuple []),H)) v0 v1 H
theorem cHpUpEq (cal:CB)(O:Oracle)(N:Nat)(v0 v1:IV)(H:Heap):lrunK cal O N (cHpUp) [v0,v1] H=cHpUpS cal O N v0 v1 H:=by
 show lxK cal O N cHpUpC1 (initFrom 0 [v0,v1]) H (endK [])=_;exact cHpUpC1Eq cal O N (k:=(endK [])) (fun H=>some ((.tuple []),H)) (fun _ _=>rfl) (initFrom 0 [v0,v1]) H
def X6K0 :LC:=.block 1 (.seq (.reg [ qM 12 7,qO 13 (.bin .mul (k6 2) (.t 12)),qO 14 (.bin .add (.t 13) (k6 1)),qM 8 14]) (.seq (.seq (.reg [ qM 15 8,qM 16 2,qO 17 (.bin .geq (.t 15) (.t 16)),qM 18 17,⟨(some 19),(.mv (.t 8)),(some (18,false))⟩,⟨(some 20),(.bin .lss (.t 19) (k6 0)),(some (18,false))⟩,qO 21 (.pick (.t 18) (.k (.bool true)) (.t 20))]) (.cond (.t 21) (.exit 0) .skip)) (.seq (.reg [ qM 22 8,qM 9 22]) (.seq (.seq (.reg [ qM 23 8,qO 24 (.bin .add (.t 23) (k6 1)),qM 10 24]) (.seq (.reg [ qM 25 10,qM 26 2,qO 27 (.bin .lss (.t 25) (.t 26)),qM 28 27,⟨(some 29),(.mv (.t 0)),(some (28,true))⟩,⟨(some 30),(.mv (.t 10)),(some (28,true))⟩,⟨(some 31),(.mv (.t 8)),(some (28,true))⟩,⟨(some 32),(.inv [(178,(203,0)),(196,(203,1))] (.t 29) [(.t 30),(.t 31)]),(some (28,true))⟩,qO 33 (.pick (.t 28) (.t 32) (.k (.bool false)))]) (.cond (.t 33) (.reg [ qM 34 10,qM 9 34]) .skip))) (.seq (.seq (.reg [ qM 35 0,qM 36 9,qM 37 7,qO 38 (.inv [(178,(203,0)),(196,(203,1))] (.t 35) [(.t 36),(.t 37)]),qO 39 (.un .not (.t 38))]) (.cond (.t 39) (.exit 0) .skip)) (.seq (.reg [ qM 40 0,qM 41 7,qM 42 9,qO 43 (.inv [(178,(204,0)),(196,(204,1))] (.t 40) [(.t 41),(.t 42)])]) (.reg [ qM 44 9,qM 7 44])))))))
def cHpDownC0 :LC:=.loop X6K0
def cHpDownC1 :LC:=.block 0 cHpDownC0
def X6K2 :LC:=.seq (.reg [ qM 45 7,qM 46 1,qO 47 (.bin .gtr (.t 45) (.t 46)),qM 6 47]) .ret
def cHpDownC2 :LC:=.seq cHpDownC1 X6K2
def cHpDownC3 :LC:=.seq (.reg [ qM 11 1,qM 7 11]) cHpDownC2
def cHpDownC4 :LC:=.seq (.reg [ qO 6 (.mv (.k (.bool false)))]) cHpDownC3
def cHpDownC0S (cal:CB)(O:Oracle)(N:Nat)(gE0:IV->IV->Heap->OH):Nat->IV->IV->IV->IV->Heap->OH
 | 0,_,_,_,_,_=>none
 | n+1,v0,v1,v2,v7,H =>ob (lbin .mul (.int .i64 2) v7) fun t1 =>ob (lbin .add t1 (.int .i64 1)) fun t2 =>ob (lbin .geq t2 v2) fun t3 =>ob (gq (isB t3 false) (some t2)) fun t4 =>ob (gq (isB t3 false) (lbin .lss t4 (.int .i64 0))) fun t5 =>ob (lpick t3 (.bool true) t5) fun t6 =>cnd t6
  (gE0 v1 v7 H)
  (jn (fun(j8:IV) (H21:Heap) =>ob (linvV O H21 [(178,(203,0)),(196,(203,1))] v0 [j8,v7]) fun r22 =>ob (iun .not r22.1) fun t23 =>cnd t23
  (gE0 v1 v7 r22.2)
  (ob (linvV O r22.2 [(178,(204,0)),(196,(204,1))] v0 [v7,j8]) fun r24 =>
   cHpDownC0S cal O N gE0 n v0 v1 v2 j8 r24.2)) fun J7 =>ob (lbin .add t2 (.int .i64 1)) fun t25 =>ob (lbin .lss t25 v2) fun t26 =>ob (gq (isB t26 true) (some v0)) fun t27 =>ob (gq (isB t26 true) (some t25)) fun t28 =>ob (gq (isB t26 true) (some t2)) fun t29 =>ob (ge (isB t26 true) H (linvV O H [(178,(203,0)),(196,(203,1))] t27 [t28,t29])) fun r30 =>ob (lpick t26 r30.1 (.bool false)) fun t31 =>cnd t31
  (J7 t25 r30.2)
  (J7 t2 r30.2))
theorem cHpDownC0Eq (cal:CB)(O:Oracle)(N:Nat){k:KT (IV×Heap)}(gE0:IV->IV->Heap->OH)(hgE0:∀E H,k (.exit 0) E H=gE0 (lk E 1) (lk E 7) H):∀(n:Nat) (E:Sg) (H:Heap),itK (lxK cal O N X6K0) n E H k=cHpDownC0S cal O N gE0 n (lk E 0) (lk E 1) (lk E 2) (lk E 7) H:=by
 have hk:k=(kE 0 (fun E H=>gE0 (lk E 1) (lk E 7) H) k):=(kE_mk hgE0 rfl);intro n
 induction n with
 | zero=>intro E H;rfl
 | succ n ih =>
  intro E H;rw[itK_succ,seqK_mk (g:=fun E H=>cHpDownC0S cal O N gE0 n (lk E 0) (lk E 1) (lk E 2) (lk E 7) H) ih,hk];kernel_rfl
def cHpDownC1S (cal:CB)(O:Oracle)(N:Nat)(gN:IV->IV->Heap->OH)(v0 v1 v2 v7:IV)(H:Heap):OH :=
  cHpDownC0S cal O N (fun v1 v7 H=>gN v1 v7 H) N v0 v1 v2 v7 H
theorem cHpDownC1Eq (cal:CB)(O:Oracle)(N:Nat){k:KT (IV×Heap)}(gN:IV->IV->Heap->OH)(hgN:∀E H,k .normal E H=gN (lk E 1) (lk E 7) H):∀(E:Sg) (H:Heap),lxK cal O N cHpDownC1 E H k=cHpDownC1S cal O N gN (lk E 0) (lk E 1) (lk E 2) (lk E 7) H:=by
 have hk:k=(kN (fun E H=>gN (lk E 1) (lk E 7) H) k):=(kN_mk hgN rfl);intro E H;rw[hk];show lxK cal O N cHpDownC0 E H (blockK 0 (kN (fun E H=>gN (lk E 1) (lk E 7) H) k))=_;exact cHpDownC0Eq cal O N (k:=(blockK 0 (kN (fun E H=>gN (lk E 1) (lk E 7) H) k))) gN (fun _ _=>rfl) N E H
def cHpDownC2S (cal:CB)(O:Oracle)(N:Nat)(v0 v1 v2 v7:IV)(H:Heap):OH :=
  cHpDownC1S cal O N (fun v1 v7 H=>ob (lbin .gtr v7 v1) fun t1 =>some (t1,H)) v0 v1 v2 v7 H
theorem cHpDownC2Eq (cal:CB)(O:Oracle)(N:Nat){k:KT (IV×Heap)}(hR:∀E H,k .ret E H=resK [(.tmp 6)] [] E H):∀(E:Sg) (H:Heap),lxK cal O N cHpDownC2 E H k=cHpDownC2S cal O N (lk E 0) (lk E 1) (lk E 2) (lk E 7) H:=by
 have hk:k=(kR (resK [(.tmp 6)] []) k):=(kR_mk hR rfl);intro E H;rw[hk];show lxK cal O N cHpDownC1 E H (seqK (lxK cal O N X6K2) (kR (resK [(.tmp 6)] []) k))=_;exact cHpDownC1Eq cal O N (k:=(seqK (lxK cal O N X6K2) (kR (resK [(.tmp 6)] []) k))) (fun v1 v7 H=>ob (lbin .gtr v7 v1) fun t1 =>some (t1,H)) (fun _ _=>rfl) E H
def cHpDownC3S (cal:CB)(O:Oracle)(N:Nat)(v0 v1 v2:IV)(H:Heap):OH :=
  cHpDownC2S cal O N v0 v1 v2 v1 H
theorem cHpDownC3Eq (cal:CB)(O:Oracle)(N:Nat){k:KT (IV×Heap)}(hR:∀E H,k .ret E H=resK [(.tmp 6)] [] E H):∀(E:Sg) (H:Heap),lxK cal O N cHpDownC3 E H k=cHpDownC3S cal O N (lk E 0) (lk E 1) (lk E 2) H:=by
 have hk:k=(kR (resK [(.tmp 6)] []) k):=(kR_mk hR rfl);intro E H;rw[hk];show lxK cal O N (.reg [ qM 11 1,qM 7 11]) E H (seqK (lxK cal O N cHpDownC2) (kR (resK [(.tmp 6)] []) k))=_;rw[seqK_mk (g:=fun E H=>cHpDownC2S cal O N (lk E 0) (lk E 1) (lk E 2) (lk E 7) H) (cHpDownC2Eq cal O N (k:=(kR (resK [(.tmp 6)] []) k)) (fun _ _=>rfl))];kernel_rfl
def cHpDownC4S (cal:CB)(O:Oracle)(N:Nat)(v0 v1 v2:IV)(H:Heap):OH :=
  cHpDownC3S cal O N v0 v1 v2 H
theorem cHpDownC4Eq (cal:CB)(O:Oracle)(N:Nat){k:KT (IV×Heap)}(hR:∀E H,k .ret E H=resK [(.tmp 6)] [] E H):∀(E:Sg) (H:Heap),lxK cal O N cHpDownC4 E H k=cHpDownC4S cal O N (lk E 0) (lk E 1) (lk E 2) H:=by
 have hk:k=(kR (resK [(.tmp 6)] []) k):=(kR_mk hR rfl);intro E H;rw[hk];show lxK cal O N (.reg [ qO 6 (.mv (.k (.bool false)))]) E H (seqK (lxK cal O N cHpDownC3) (kR (resK [(.tmp 6)] []) k))=_;rw[seqK_mk (g:=fun E H=>cHpDownC3S cal O N (lk E 0) (lk E 1) (lk E 2) H) (cHpDownC3Eq cal O N (k:=(kR (resK [(.tmp 6)] []) k)) (fun _ _=>rfl))];kernel_rfl
def cHpDown :LFun:=⟨cHpDownC4,[(.tmp 6)],48⟩
def cHpDownS (cal:CB)(O:Oracle)(N:Nat)(v0 v1 v2:IV)(H:Heap):OH :=
  cHpDownC4S cal O N v0 v1 v2 H
theorem cHpDownEq (cal:CB)(O:Oracle)(N:Nat)(v0 v1 v2:IV)(H:Heap):lrunK cal O N (cHpDown) [v0,v1,v2] H=cHpDownS cal O N v0 v1 v2 H:=by
 show lxK cal O N cHpDownC4 (initFrom 0 [v0,v1,v2]) H (endK [(.tmp 6)])=_;exact cHpDownC4Eq cal O N (k:=(endK [(.tmp 6)])) (fun _ _=>rfl) (initFrom 0 [v0,v1,v2]) H
def QqLenS (cal:CB)(O:Oracle)(N:Nat)(f0:FuncId)(v0:IV)(H:Heap):OH :=
 ob (lchk v0) fun t1 =>ob (loff t1 0) fun t2 =>ob (lload1 H t2) fun t3 =>ob (O f0 [t3] H) fun r4 =>some (r4.1,r4.2)
end Go.Shade
namespace Go.Shade
variable {B b : Nat} {F : Nat -> Prop} {H H' : Heap} {cs : List IV} {o : IObj}
abbrev Out :=IV×Heap
def Frame (F:Nat->Prop)(H H':Heap):Prop:=H.length<=H'.length/\∀i,i<H.length->¬F i->H'[i]? =H[i]?
abbrev NoF :Nat->Prop:=fun _=>False
theorem Frame.refl (F:Nat->Prop)(H:Heap):Frame F H H:=⟨Nat.le_refl _,fun _ _ _=>rfl⟩
theorem Frame.mono {G:Nat->Prop}(h:Frame F H H')(k:∀i,F i->G i):Frame G H H':=⟨h.1,fun i hi hg=>h.2 i hi (fun hf=>hg (k i hf))⟩
theorem Frame.no {G:Nat->Prop}(h:Frame NoF H H'):Frame G H H':=h.mono fun _ h=>h.elim
theorem Frame.trans {F G:Nat->Prop}{H H' H'':Heap}(h:Frame F H H')(k:Frame G H' H'')(hg:∀i,i<H.length->G i->F i):Frame F H H'' :=
 ⟨Nat.le_trans h.1 k.1,fun i hi hf=>(k.2 i (Nat.lt_of_lt_of_le hi h.1) (fun g=>hf (hg i hi g))).trans (h.2 i hi hf)⟩
theorem Frame.tr {H'':Heap}(h:Frame F H H')(k:Frame F H' H''):Frame F H H'':=h.trans k fun _ _ h=>h
theorem Frame.push (F:Nat->Prop)(H X:Heap):Frame F H (H++X):=⟨by simp,fun i hi _=>List.getElem?_append_left hi⟩
theorem Frame.set {F:Nat->Prop}(H:Heap){r:Nat}(o:IObj)(h:F r):Frame F H (H.set r o):=⟨by simp,fun i hi hf=>List.getElem?_set_ne (fun e=>hf (by rw[←e];exact h))⟩
theorem Frame.setNew {F:Nat->Prop}{H H':Heap}(h:Frame F H H'){r:Nat}(o:IObj)(hr:H.length<=r):Frame F H (H'.set r o) :=
 h.trans (Frame.set (F:=fun i=>i=r) H' o rfl) fun i hi e=>by omega
theorem Frame.get (h:Frame F H H'){i:Nat}(hf:¬F i)(e:H[i]? =some o):H'[i]? =some o:=(h.2 i (ges e).1 hf).trans e
theorem Frame.keep (h:Frame F H H')(hB:B<=H.length)(hF:∀i,F i->B<=i):Keep B H H':=⟨fun i hi=>h.2 i (by omega) (fun hf=>by have:=hF i hf;omega),h.1⟩
theorem Keep.frame' (h:Keep H.length H H'):Frame F H H':=⟨h.2,fun i hi _=>h.1 i hi⟩
def Sl (s:Nat)(H:Heap)(v:IV)(n:Nat)(cs:List IV):Prop :=
 cs.length=n*s/\((v=.nilSlice/\n=0)∨∃b o lb ex sz,v=.slice b o n lb ex sz/\n<=lb/\(sz=0∨sz=s)/\(0<n->∃row ro,H[b]? =some (.row row ro)/\o+n*s<=row.length/\(row.drop o).take (n*s)=cs))
def At (F:Nat->Prop)(v:IV):Prop:=∀b o n lb ex sz,v=.slice b o n lb ex sz->0<n->F b
section
variable {s n : Nat} {H : Heap} {v : IV} {cs : List IV}
theorem Sl.nil (s:Nat)(H:Heap):Sl s H .nilSlice 0 []:=⟨by simp,.inl ⟨rfl,rfl⟩⟩
theorem Sl.ix (h:Sl s H v n cs){i:Nat}(hi:i<n):∃b o,lix s v (.int .i64 (i:Nat))=some (.ptr b o)/\∃row ro,H[b]? =some (.row row ro)/\o+s<=row.length/\(row.drop o).take s=(cs.drop (i*s)).take s/\∀k,k<s->row[o+k]? =cs[i*s+k]? :=by
 obtain⟨h1,⟨rfl,rfl⟩ | ⟨b,o,lb,ex,sz,rfl,h2,h3,h4⟩⟩:=h
 ·omega
 ·obtain⟨row,ro,g1,g2,g3⟩:=h4 (by omega);have hle:i*s+s<=n*s:=by rw[←Nat.succ_mul];exact Nat.mul_le_mul_right s hi
  refine⟨b,o+i*s,by rw[lix_slice,if_pos (by omega)];simp,row,ro,g1,by omega,?_,fun k hk=> ?_⟩
  ·rw[←g3,List.drop_take,List.take_take,List.drop_drop,Nat.min_eq_left (by omega)]
  ·rw[←g3,List.getElem?_take,if_pos (by omega),List.getElem?_drop,Nat.add_assoc]
theorem Sl.take (h:Sl s H v n cs){k:Nat}(hk:k<=n):∃v',lslice H (.slice s) v none (some (.int .i64 (k:Nat))) none=some v'/\Sl s H v' k (cs.take (k*s)):=by
 obtain⟨h1,⟨rfl,rfl⟩ | ⟨b,o,lb,ex,sz,rfl,h2,h3,h4⟩⟩:=h
 ·have:k=0:=by omega
  subst this;exact⟨_,rfl,by simp,.inl ⟨rfl,rfl⟩⟩
 ·have hle:k*s<=n*s:=Nat.mul_le_mul_right s hk;refine⟨.slice b (o+0*s) (k - 0) (lb - 0) ex sz,?_,by rw[List.length_take,h1];omega,.inr ⟨b,o+0*s,lb - 0,ex,sz,by simp,by omega,h3,fun hp=> ?_⟩⟩
  ·simp only[lslice,bnd];rw[if_pos (by omega)];simp only[Option.bind_some,Int.toNat_natCast];rw[if_neg (fun h=>by rcases h3 with e | e;exact h.1 e;exact h.2 e),if_pos (by clear h4;omega)]
  ·obtain⟨row,ro,g1,g2,g3⟩:=h4 (by omega);refine⟨row,ro,g1,by omega,?_⟩;rw[←g3,List.take_take,Nat.min_eq_left hle];simp
theorem Sl.drop (h:Sl s H v n cs){k:Nat}(hk:k<=n):∃v',lslice H (.slice s) v (some (.int .i64 (k:Nat))) none none=some v'/\Sl s H v' (n - k) (cs.drop (k*s)):=by
 obtain⟨h1,⟨rfl,rfl⟩ | ⟨b,o,lb,ex,sz,rfl,h2,h3,h4⟩⟩:=h
 ·have:k=0:=by omega
  subst this;exact⟨_,rfl,by simpa using h1,.inl ⟨rfl,rfl⟩⟩
 ·have hmul:(n - k)*s=n*s - k*s:=Nat.sub_mul n k s;have hle:k*s<=n*s:=Nat.mul_le_mul_right s hk;refine⟨.slice b (o+k*s) (n - k) (lb - k) ex sz,?_,by rw[List.length_drop,h1,hmul],.inr ⟨b,o+k*s,lb - k,ex,sz,rfl,by omega,h3,fun hp=> ?_⟩⟩
  ·simp only[lslice,bnd];rw[if_pos (by omega)];simp only[Option.bind_some,Int.toNat_natCast];rw[if_neg (fun h=>by rcases h3 with e | e;exact h.1 e;exact h.2 e),if_pos (by clear h4;omega)]
  ·obtain⟨row,ro,g1,g2,g3⟩:=h4 (by omega);refine⟨row,ro,g1,by omega,?_⟩;rw[←g3,List.drop_take,List.drop_drop,hmul]
theorem Buf.sl {B:Nat}(h:Buf B s H v cs):∃n,Sl s H v n cs:=by
 rcases h with⟨rfl,rfl⟩ | ⟨r,n,ex,rfl,g1,g2,g3⟩
 ·exact⟨0,Sl.nil _ _⟩
 ·exact⟨n,g3,.inr ⟨r,0,n,ex,s,rfl,Nat.le_refl _,.inr rfl,fun _=>⟨cs,false,g2,by omega,by rw[List.drop_zero,List.take_of_length_le (by omega)]⟩⟩⟩
theorem Buf.ge (h:Buf B s H v cs):At (B<= ·) v:=by
 intro b o n lb ex sz e _;rcases h with⟨rfl,rfl⟩ | ⟨r,n,ex,rfl,g1,g2,g3⟩
 ·cases e
 ·cases e;exact g1
theorem Buf.one {B:Nat}(h:Buf B s H v cs):v.one=true:=by
 rcases h with⟨rfl,rfl⟩ | ⟨r,n,ex,rfl,g1,g2,g3⟩<;>rfl
theorem Buf.frame (h:Buf B s H v cs)(k:Frame F H H')(hf:∀i,F i->i<B∨H.length<=i):Buf B s H' v cs:=by
 rcases h with h | ⟨r,n,ex,rfl,h1,h2,h3⟩
 ·exact .inl h
 ·have hlt:=(ges h2).1;exact .inr ⟨r,n,ex,rfl,h1,k.get (fun hF=>by rcases hf r hF with h | h<;>omega) h2,h3⟩
theorem Buf.frame' {B C:Nat}(h:Buf C s H v cs)(k:Buf B s H v cs){F:Nat->Prop}{H':Heap}(q:Frame F H H')(hf:∀i,F i->i<B):Buf C s H' v cs:=by
 rcases h with h | ⟨r,n,ex,rfl,h1,h2,h3⟩
 ·exact .inl h
 ·rcases k with⟨e,_⟩ | ⟨r',n',ex',e,k1,_,_⟩
  ·cases e
  ·cases e
   exact .inr ⟨r,n,ex,rfl,h1,q.get (fun hF=>by have:=hf r hF;omega) h2,h3⟩
end
theorem newBuf (s:Nat)(H:Heap):Buf H.length s (H++[.row [] false]) (.slice H.length 0 0 0 true s) []:=.inr ⟨_,0,true,rfl,Nat.le_refl _,by simp,by simp⟩
theorem newRow :(H++[o])[H.length]? =some o:=by simp
theorem setRow {p:IObj}:(H++[o]).set H.length p=H++[p]:=by simp
theorem setAt {p:Nat}{o':IObj}(hp:H[p]? =some o):(H.set p o')[p]? =some o':=by
 have:=(ges hp).1;simp[this]
theorem st1 {k:Nat}{x:IV}(h:H[b]? =some (.row cs false))(hx:x.one=true)(hk:k<cs.length):lstV H 1 (.ptr b k) x=some (.tuple [],H.set b (.row (cs.set k x) false)):=by
 rw[lstV_ptr,h,putO_one hx hk];rfl
theorem stn {n:Nat}{xs:List IV}(h:H[b]? =some (.row cs false))(hx:xs.all IV.one=true)(hn:xs.length=n)(hk:cs.length=n):lstV H n (.ptr b 0) (.agg xs)=some (.tuple [],H.set b (.row xs false)):=by
 rw[lstV_ptr,h,putO_all hx hn hk];rfl
theorem ld1 {k:Nat}{ro:Bool}(h:H[b]? =some (.row cs ro)):lload1 H (.ptr b k)=cs[k]? :=by rw[lload1_ptr,h];rfl
theorem ldn {n:Nat}{ro:Bool}(h:H[b]? =some (.row cs ro))(hn:cs.length=n):lloadn H n (.ptr b 0)=some (.agg cs):=by
 subst hn;rw[lloadn_ptr,h,ogn_row,if_pos (by omega)];simp
end Go.Shade
namespace Go.Shade
variable {H : Heap} {P : Nat -> Prop} {j : Nat} {sv : IV}
structure It where
 key:Int
 n:Int
 push:Int
 deriving DecidableEq
def It.c (x:It):List IV:=[.int .i64 x.key,.int .i64 x.n,.int .i64 x.push]
def itcs :List It->List IV
 | []=>[]
 | x::l=>.int .i64 x.key:: .int .i64 x.n:: .int .i64 x.push::itcs l
theorem It.c_length (x:It):x.c.length=3:=rfl
theorem It.c_one (x:It):x.c.all IV.one=true:=rfl
theorem itcs_length :∀l:List It,(itcs l).length=3*l.length
 | []=>rfl
 | x::l=>by simp[itcs,itcs_length l];omega
theorem itcs_append :∀a b:List It,itcs (a++b)=itcs a++itcs b
 | [],b=>rfl
 | x::a,b=>by simp[itcs,itcs_append a b]
theorem itcs_drop :∀(l:List It) (n:Nat),(itcs l).drop (3*n)=itcs (l.drop n)
 | l,0=>rfl
 | [],n+1=>by simp[itcs]
 | x::l,n+1=>by
  rw[show 3*(n+1)=3*n+1+1+1 by omega];simp only[itcs,List.drop_succ_cons];exact itcs_drop l n
theorem itcs_take :∀(l:List It) (n:Nat),(itcs l).take (3*n)=itcs (l.take n)
 | l,0=>rfl
 | [],n+1=>by simp[itcs]
 | x::l,n+1=>by
  rw[show 3*(n+1)=3*n+1+1+1 by omega];simp only[itcs,List.take_succ_cons,itcs_take l n]
theorem itcs_set :∀(l:List It) (j:Nat) (x:It),j<l.length->itcs (l.set j x)=itcs (l.take j)++(x.c++itcs (l.drop (j+1)))
 | [],j,x,h=>by simp at h
 | y::l,0,x,h=>by simp[itcs,It.c]
 | y::l,j+1,x,h=>by
  simp only[List.set_cons_succ,itcs,List.take_succ_cons,List.drop_succ_cons,List.cons_append];rw[itcs_set l j x (by simpa using h)]
theorem itcs_put {l:List It}(h:j<l.length)(x:It):putAt (itcs l) (3*j) x.c=itcs (l.set j x):=by
 apply List.ext_getElem?;intro k;have hl:=itcs_length l;rw[putAt_get (by rw[It.c_length];omega),itcs_set l j x h,It.c_length];have ht:(itcs (l.take j)).length=3*j:=by rw[itcs_length,List.length_take];omega
 rw[List.getElem?_append];by_cases h1:k<3*j
 ·rw[if_neg (by omega),if_pos (by omega),←itcs_take,List.getElem?_take,if_pos h1]
 ·rw[ht,if_neg h1,List.getElem?_append,It.c_length];by_cases h2:k<3*j+3
  ·rw[if_pos (by omega),if_pos (by omega)]
  ·rw[if_neg (by omega),if_neg (by omega),←itcs_drop,List.getElem?_drop]
   congr 1;omega
theorem itcs_ld {l:List It}{x:It}(h:l[j]? =some x):((itcs l).drop (3*j)).take 3=x.c:=by
 rw[itcs_drop];have:l.drop j=x::l.drop (j+1):=by
  rw[List.drop_eq_getElem_cons (ges h).1];rw[(ges h).2]
 rw[this];rfl
theorem ldi {b:Nat}{l:List It}{x:It}(hb:H[b]? =some (.row (itcs l) false))(h:l[j]? =some x):lloadn H 3 (.ptr b (j*3))=some (.agg x.c):=by
 have:=(ges h).1;rw[lloadn_ptr,hb,ogn_row,if_pos (by rw[itcs_length];omega),Nat.mul_comm,itcs_ld h]
theorem sti {b:Nat}{l:List It}{x:It}(hb:H[b]? =some (.row (itcs l) false))(h:j<l.length):lstV H 3 (.ptr b (j*3)) (.agg x.c)=some (.tuple [],H.set b (.row (itcs (l.set j x)) false)):=by
 rw[lstV_ptr,hb];have:putO (some (.row (itcs l) false)) b (j*3) 3 (.agg x.c) H=some (H.set b (.row (putAt (itcs l) (j*3) x.c) false)):=by
  unfold putO;simp only[IV.cells,isTuple];rw[if_pos ⟨trivial,rfl,by rw[itcs_length,It.c_length];omega,rfl⟩]
 rw[this,Nat.mul_comm,itcs_put h];rfl
def QSl (P:Nat->Prop)(H:Heap)(sv:IV)(l:List It):Prop :=
 (sv=.nilSlice/\l=[])∨∃r rest ex,sv=.slice r 0 l.length (l.length+rest.length) ex 3/\P r/\H[r]? =some (.row (itcs (l++rest)) false)
theorem QSl.len {l:List It}(h:QSl P H sv l):llen H .slice sv=some (.int .i64 (l.length:Nat)):=by
 rcases h with⟨rfl,rfl⟩ | ⟨r,rest,ex,rfl,_,_⟩<;>rfl
theorem QSl.one {P:Nat->Prop}{H:Heap}{sv:IV}{l:List It}(h:QSl P H sv l):sv.one=true:=by
 rcases h with⟨rfl,rfl⟩ | ⟨r,rest,ex,rfl,_,_⟩<;>rfl
theorem QSl.frame {F:Nat->Prop}{H':Heap}{l:List It}(h:QSl P H sv l)(k:Frame F H H')(hf:∀i,P i->¬F i):QSl P H' sv l:=by
 rcases h with h | ⟨r,rest,ex,h1,h2,h3⟩
 ·exact .inl h
 ·exact .inr ⟨r,rest,ex,h1,h2,k.get (hf r h2) h3⟩
theorem QSl.mono {Q:Nat->Prop}{l:List It}(h:QSl P H sv l)(k:∀i,P i->Q i):QSl Q H sv l:=by
 rcases h with h | ⟨r,rest,ex,h1,h2,h3⟩
 ·exact .inl h
 ·exact .inr ⟨r,rest,ex,h1,k r h2,h3⟩
theorem QSl.at {P:Nat->Prop}{H:Heap}{sv:IV}{l:List It}(h:QSl P H sv l){i:Nat}{x:It}(hi:l[i]? =some x):∃r rest ex,sv=.slice r 0 l.length (l.length+rest.length) ex 3/\P r/\H[r]? =some (.row (itcs (l++rest)) false)/\lix 3 sv (.int .i64 (i:Nat))=some (.ptr r (i*3))/\lloadn H 3 (.ptr r (i*3))=some (.agg x.c):=by
 have hlt:=(ges hi).1;rcases h with⟨rfl,rfl⟩ | ⟨r,rest,ex,rfl,h2,h3⟩
 ·simp at hlt
 ·exact⟨r,rest,ex,rfl,h2,h3,by rw[lix_slice,if_pos (by omega)];simp,ldi h3 (by rw[List.getElem?_append_left hlt];exact hi)⟩
def QOk (P:Nat->Prop)(H:Heap)(q:Nat)(l:List It)(k:Int):Prop :=
 P q/\(∀i,P i->i<H.length)/\∃sv,H[q]? =some (.row [sv,.int .i64 k] false)/\QSl (fun i=>P i/\i≠q) H sv l
theorem QOk.frame {P F:Nat->Prop}{H H':Heap}{q:Nat}{l:List It}{k:Int}(h:QOk P H q l k)(e:Frame F H H')(hf:∀i,P i->¬F i):QOk P H' q l k:=by
 obtain⟨h1,h2,sv,h3,h4⟩:=h;exact⟨h1,fun i hi=>Nat.lt_of_lt_of_le (h2 i hi) e.1,sv,e.get (hf q h1) h3,h4.frame e fun i hi=>hf i hi.1⟩
def ahead (a b:It):Bool:=if a.key=b.key then decide (a.push<b.push)else decide (a.key<b.key)
def aheadAt (l:List It)(i j:Nat):Bool:=match l[i]?,l[j]? with
 | some x,some y=>ahead x y
 | _,_=>false
def iswp (l:List It)(i j:Nat):List It:=match l[i]?,l[j]? with
 | some x,some y=>(l.set i y).set j x
 | _,_=>l
theorem iswp_length (l:List It)(i j:Nat):(iswp l i j).length=l.length:=by
 unfold iswp;split<;>simp
def upL :Nat->List It->Nat->List It
 | 0,l,_=>l
 | n+1,l,j=>if j=0 then l else if aheadAt l j ((j - 1) / 2)then upL n (iswp l ((j - 1) / 2) j) ((j - 1) / 2)else l
def dnJ (l:List It)(i n:Nat):Nat:=if 2*i+2<n/\aheadAt l (2*i+2) (2*i+1)=true then 2*i+2 else 2*i+1
def dnL :Nat->List It->Nat->Nat->List It
 | 0,l,_,_=>l
 | f+1,l,i,n=>if n<=2*i+1 then l else if aheadAt l (dnJ l i n) i then dnL f (iswp l i (dnJ l i n)) (dnJ l i n) n else l
theorem dnL_length :∀f l i n,(dnL f l i n).length=l.length
 | 0,l,i,n=>rfl
 | f+1,l,i,n=>by
  unfold dnL;split
  ·rfl
  ·split
   ·rw[dnL_length,iswp_length]
   ·rfl
theorem itcs_inj :∀{a b:List It},itcs a=itcs b->a=b
 | [],[],_=>rfl
 | [],y::b,h=>by simp[itcs]at h
 | x::a,[],h=>by simp[itcs]at h
 | x::a,y::b,h=>by
  simp only[itcs,List.cons.injEq,IV.int.injEq,true_and]at h;obtain⟨h1,h2,h3,h4⟩:=h;rw[itcs_inj h4]
  cases x;cases y;simp_all
structure QX (H:Heap)(q r:Nat)(ex:Bool)(rest l:List It)(k:Int):Prop where
 hd:H[q]? =some (.row [.slice r 0 l.length (l.length+rest.length) ex 3,.int .i64 k] false)
 row:H[r]? =some (.row (itcs (l++rest)) false)
 ne:r≠q
theorem QX.frame {H':Heap}{q r:Nat}{ex:Bool}{rest l:List It}{k:Int}(h:QX H q r ex rest l k)(g:Frame NoF H H'):QX H' q r ex rest l k:=⟨g.get (fun h=>h) h.hd,g.get (fun h=>h) h.row,h.ne⟩
theorem linv0 {O:Oracle}{tbl:List (Nat×FuncId×Nat)}{t:Nat}{f:FuncId}{v:IV}{as':List IV}(hf:invFind tbl t=some (f,0)):linvV O H tbl (.iface t v) as'=O f (v::as') H:=by
 simp only[linvV,hf,irecv]
theorem linv1 {O:Oracle}{tbl:List (Nat×FuncId×Nat)}{t:Nat}{f:FuncId}{v w:IV}{as':List IV}(hf:invFind tbl t=some (f,1))(hl:lload1 H v=some w):linvV O H tbl (.iface t v) as'=O f (w::as') H:=by
 simp only[linvV,hf,irecv,hl]
end Go.Shade
namespace Go.Shade
variable {H : Heap} {P : Nat -> Prop} {f : FuncId} {i j q t : Nat} {k : Int} {l : List It} {sv : IV} {tbl : List (Nat × FuncId × Nat)}
section
variable {cal : FuncId -> Bool} {O : Oracle} {N : Nat}
def ILenOk (O:Oracle)(f:FuncId):Prop:=∀(P:Nat->Prop) (H:Heap) (sv:IV) (l:List It),QSl P H sv l->O f [sv] H=some (.int .i64 (l.length:Nat),H)
theorem ilen_s (h:QSl P H sv l):QisLenS cal O N sv H=some (.int .i64 (l.length:Nat),H):=by
 unfold QisLenS;rw[h.len,ob_some]
def AheadOk (O:Oracle)(f:FuncId):Prop:=∀(H:Heap) (x y:It),Wp (O f [.agg x.c,.agg y.c] H) fun r=>r.1=.bool (ahead x y)/\Frame NoF H r.2
def LessOk (O:Oracle)(f:FuncId):Prop:=∀(P:Nat->Prop) (H:Heap) (sv:IV) (l:List It) (i j:Nat),QSl P H sv l->i<l.length->j<l.length->Wp (O f [sv,.int .i64 (i:Nat),.int .i64 (j:Nat)] H) fun r=>r.1=.bool (aheadAt l i j)/\Frame NoF H r.2
theorem less_s {fa:FuncId}(ha:AheadOk O fa)(h:QSl P H sv l)(hi:i<l.length)(hj:j<l.length):Wp (QisLessS cal O N fa sv (.int .i64 (i:Nat)) (.int .i64 (j:Nat)) H) fun r=>r.1=.bool (aheadAt l i j)/\Frame NoF H r.2:=by
 have gi:l[i]? =some l[i]:=List.getElem?_eq_getElem hi;have gj:l[j]? =some l[j]:=List.getElem?_eq_getElem hj;obtain⟨r,rest,ex,_,_,_,a1,a2⟩:=h.at gi;obtain⟨r',rest',ex',_,_,_,b1,b2⟩:=h.at gj;unfold QisLessS;rw[a1,ob_some,a2,ob_some,b1,ob_some,b2,ob_some];refine Wp.call (ha H l[i] l[j]) ?_;rintro⟨v,H'⟩ ⟨e,k⟩;simp only at e k;subst e;refine Wp.ret ⟨?_,k⟩;unfold aheadAt;rw[gi,gj]
def SwapOk (O:Oracle)(f:FuncId):Prop:=∀(P:Nat->Prop) (H:Heap) (sv:IV) (l:List It) (i j:Nat),QSl P H sv l->i<l.length->j<l.length->Wp (O f [sv,.int .i64 (i:Nat),.int .i64 (j:Nat)] H) fun r=>r.1=.tuple []/\Frame P H r.2/\QSl P r.2 sv (iswp l i j)/\∀b rest ex,sv=.slice b 0 l.length (l.length+rest.length) ex 3->H[b]? =some (.row (itcs (l++rest)) false)->r.2[b]? =some (.row (itcs (iswp l i j++rest)) false)
theorem swap_s (h:QSl P H sv l)(hi:i<l.length)(hj:j<l.length):Wp (QisSwapS cal O N sv (.int .i64 (i:Nat)) (.int .i64 (j:Nat)) H) fun r=>r.1=.tuple []/\Frame P H r.2/\QSl P r.2 sv (iswp l i j)/\∀b rest ex,sv=.slice b 0 l.length (l.length+rest.length) ex 3->H[b]? =some (.row (itcs (l++rest)) false)->r.2[b]? =some (.row (itcs (iswp l i j++rest)) false):=by
 have gi:l[i]? =some l[i]:=List.getElem?_eq_getElem hi;have gj:l[j]? =some l[j]:=List.getElem?_eq_getElem hj;obtain⟨r,rest,ex,rfl,c1,c2,a1,a2⟩:=h.at gi;have b2:lloadn H 3 (.ptr r (j*3))=some (.agg l[j].c):=ldi c2 (by rw[List.getElem?_append_left hj];exact gj);have b1:lix 3 (.slice r 0 l.length (l.length+rest.length) ex 3) (.int .i64 (j:Nat))=some (.ptr r (j*3)):=by rw[lix_slice,if_pos (by omega)];simp
 unfold QisSwapS;rw[b1,ob_some,b2,ob_some,a1,ob_some,a2,ob_some];rw[ob_some,sti c2 (by simp;omega),ob_some];simp only;have c3:=setAt (o':=IObj.row (itcs ((l++rest).set i l[j])) false) c2;rw[ob_some,sti c3 (by simp;omega),ob_some,List.set_set];have hrow:(H.set r (.row (itcs (((l++rest).set i l[j]).set j l[i])) false))[r]? =some (.row (itcs (iswp l i j++rest)) false):=by
  rw[setAt c2];unfold iswp;rw[gi,gj];simp only;rw[List.set_append_left _ _ hi,List.set_append_left _ _ (by simpa using hj)]
 refine Wp.ret ⟨rfl,Frame.set _ _ c1,.inr ⟨r,rest,ex,by rw[iswp_length],c1,hrow⟩,fun b rest' ex' e e'=> ?_⟩;injection e with e1 _ _ _ _ _
 subst e1;rw[c2]at e';injection e' with e';injection e' with e' _
 have:=List.append_cancel_left (itcs_inj e');subst this;exact hrow
theorem invLess (hf:invFind tbl t=some (f,1))(hL:LessOk O f)(hQ:QOk P H q l k)(hi:i<l.length)(hj:j<l.length):Wp (linvV O H tbl (.iface t (.ptr q 0)) [.int .i64 (i:Nat),.int .i64 (j:Nat)]) fun r=>r.1=.bool (aheadAt l i j)/\QOk P r.2 q l k/\Frame NoF H r.2:=by
 obtain⟨h1,h2,sv,h3,h4⟩:=id hQ;rw[linv1 hf (ld1 h3)];refine(hL _ H sv l i j h4 hi hj).mono ?_;rintro⟨v,H'⟩ ⟨e,g⟩;exact⟨e,hQ.frame g fun _ _ h=>h,g⟩
theorem invSwap (hf:invFind tbl t=some (f,1))(hL:SwapOk O f)(hQ:QOk P H q l k)(hi:i<l.length)(hj:j<l.length):Wp (linvV O H tbl (.iface t (.ptr q 0)) [.int .i64 (i:Nat),.int .i64 (j:Nat)]) fun r=>r.1=.tuple []/\QOk P r.2 q (iswp l i j) k/\Frame P H r.2/\r.2[q]? =H[q]? /\∀b ex rest,QX H q b ex rest l k->QX r.2 q b ex rest (iswp l i j) k:=by
 obtain⟨h1,h2,sv,h3,h4⟩:=id hQ;rw[linv1 hf (ld1 h3)];refine(hL _ H sv l i j h4 hi hj).mono ?_;rintro⟨v,H'⟩ ⟨e,g,g2,g4⟩;refine⟨e,⟨h1,fun i hi=>Nat.lt_of_lt_of_le (h2 i hi) g.1,sv,g.get (fun h=>h.2 rfl) h3,g2⟩,g.mono fun i hi=>hi.1,(g.get (fun h=>h.2 rfl) h3).trans h3.symm,fun b ex rest hx=> ?_⟩;have e1:=hx.hd;rw[h3]at e1;injection e1 with e1;injection e1 with e1 _;injection e1 with e1 _
 exact⟨by rw[g.get (fun h=>h.2 rfl) hx.hd,iswp_length],g4 b rest ex e1 hx.row,hx.ne⟩
theorem invLen (hf:invFind tbl t=some (f,1))(hL:ILenOk O f)(hQ:QOk P H q l k):linvV O H tbl (.iface t (.ptr q 0)) []=some (.int .i64 (l.length:Nat),H):=by
 obtain⟨h1,h2,sv,h3,h4⟩:=id hQ;rw[linv1 hf (ld1 h3)];exact hL _ H sv l h4
theorem tdiv2 (h:0<j):(((j:Nat):Int) - 1).tdiv 2=(((j - 1) / 2:Nat):Int):=by
 rw[Int.tdiv_eq_ediv_of_nonneg (by omega)];omega
def UpOk (O:Oracle)(t:Nat)(f:FuncId):Prop:=∀(P:Nat->Prop) (H:Heap) (q:Nat) (l:List It) (k:Int) (j:Nat),QOk P H q l k->j<l.length->l.length<=1000000->Wp (O f [.iface t (.ptr q 0),.int .i64 (j:Nat)] H) fun r=>r.1=.tuple []/\QOk P r.2 q (upL l.length l j) k/\Frame P H r.2/\r.2[q]? =H[q]?
theorem up_go {P:Nat->Prop}{q:Nat}{k:Int}{H0:Heap}(hL:LessOk O 203)(hS:SwapOk O 204):∀(n j:Nat) (l:List It) (H:Heap),QOk P H q l k->j<l.length->l.length<=1000000->Frame P H0 H->j<n ->
  Wp (cHpUpC0S cal O N (fun H=>some ((.tuple []),H)) n (.iface 196 (.ptr q 0)) (.int .i64 (j:Nat)) H) fun r=>r.1=.tuple []/\QOk P r.2 q (upL n l j) k/\Frame P H0 r.2/\r.2[q]? =H[q]?
 | 0,j,l,H,_,_,_,_,hn=>by omega
 | n+1,j,l,H,hQ,hj,hb,hk,hn=>by
  rw[cHpUpC0S];by_cases h0:j=0
  ·subst h0;have e1:lbin .sub (.int .i64 ((0:Nat):Int)) (.int .i64 1)=some (.int .i64 (-1)):=rfl;have e2:lbin .quo (.int .i64 (-1)) (.int .i64 2)=some (.int .i64 0):=rfl;have e3:lbin .eql (.int .i64 0) (.int .i64 ((0:Nat):Int))=some (.bool true):=rfl;rw[e1,ob_some,e2,ob_some,e3,ob_some];simp only[isB_tf,gq_false,ge_false,ob_some,lpick_true,cnd_true];refine Wp.ret ⟨rfl,?_,hk,rfl⟩;unfold upL;rw[if_pos rfl];exact hQ
  ·have e1:lbin .sub (.int .i64 (j:Nat)) (.int .i64 1)=some (.int .i64 ((j:Int) - 1)):=by rw[lbin_sub,wrap_i64 (by omega) (by omega)]
   have e2:lbin .quo (.int .i64 ((j:Int) - 1)) (.int .i64 2)=some (.int .i64 (((j - 1) / 2:Nat):Int)):=by rw[lbin_quo (by decide),tdiv2 (by omega),wrap_i64 (by omega) (by omega)]
   have e3:lbin .eql (.int .i64 (((j - 1) / 2:Nat):Int)) (.int .i64 (j:Nat))=some (.bool false):=by rw[lbin_eql,decide_eq_false (by omega)]
   rw[e1,ob_some,e2,ob_some,e3,ob_some];simp only[isB_ff,gq_true,ge_true,ob_some];refine Wp.call (invLess rfl hL hQ hj (show(j - 1) / 2<l.length by omega)) ?_;rintro⟨v,H1⟩ ⟨g1,g2,g3⟩;simp only at g1 g2 g3 ⊢;subst g1;rw[iun_not,ob_some,lpick_false,ob_some]
   cases ha:aheadAt l j ((j - 1) / 2)with
   | false =>
    rw[Bool.not_false,cnd_true];have hq0:H1[q]? =H[q]? :=by obtain⟨_,_,sv,h3,_⟩:=id hQ;exact(g3.get (fun h=>h) h3).trans h3.symm
    refine Wp.ret ⟨rfl,?_,hk.tr g3.no,hq0⟩;unfold upL;rw[if_neg h0,ha];exact g2
   | true =>
    rw[Bool.not_true,cnd_false];refine Wp.call (invSwap rfl hS g2 (show(j - 1) / 2<l.length by omega) hj) ?_;have hq0:H1[q]? =H[q]? :=by obtain⟨_,_,sv,h3,_⟩:=id hQ;exact(g3.get (fun h=>h) h3).trans h3.symm
    rintro⟨v,H2⟩ ⟨_,k2,k3,k4,_⟩;simp only at k2 k3 k4 ⊢;refine(up_go hL hS n ((j - 1) / 2) _ H2 k2 (by rw[iswp_length];omega) (by rw[iswp_length];exact hb) ((hk.tr g3.no).tr k3) (by omega)).mono ?_;rintro⟨v,H3⟩ ⟨m1,m2,m3,m4⟩;refine⟨m1,?_,m3,m4.trans (k4.trans hq0)⟩;unfold upL;rw[if_neg h0,ha];exact m2
theorem up_s (hL:LessOk O 203)(hS:SwapOk O 204)(hQ:QOk P H q l k)(hj:j<l.length)(hb:l.length<=1000000):Wp (cHpUpS cal O l.length (.iface 196 (.ptr q 0)) (.int .i64 (j:Nat)) H) fun r=>r.1=.tuple []/\QOk P r.2 q (upL l.length l j) k/\Frame P H r.2/\r.2[q]? =H[q]? :=by
 unfold cHpUpS cHpUpC1S;exact up_go hL hS l.length j l H hQ hj hb (Frame.refl _ _) hj
def DownOk (O:Oracle)(t:Nat)(f:FuncId):Prop:=∀(P:Nat->Prop) (H:Heap) (q:Nat) (l:List It) (k:Int) (i n:Nat),QOk P H q l k->n<=l.length->i<l.length->l.length<=1000000->Wp (O f [.iface t (.ptr q 0),.int .i64 (i:Nat),.int .i64 (n:Nat)] H) fun r=>(∃b,r.1=.bool b)/\QOk P r.2 q (dnL (l.length+1) l i n) k/\Frame P H r.2/\∀b ex rest,QX H q b ex rest l k->QX r.2 q b ex rest (dnL (l.length+1) l i n) k
theorem dnJ_lt {n:Nat}(h:2*i+1<n):dnJ l i n<n/\i<dnJ l i n:=by
 unfold dnJ;split<;>omega
theorem down_go {P:Nat->Prop}{q:Nat}{k:Int}{H0:Heap}{i0:Nat}(hL:LessOk O 203)(hS:SwapOk O 204):∀(f i n:Nat) (l:List It) (H:Heap),QOk P H q l k->i<l.length->n<=l.length->l.length<=1000000->Frame P H0 H->n<=i+f->0<f ->
  Wp (cHpDownC0S cal O N (fun v1 v7 H=>ob (lbin .gtr v7 v1) fun t1=>some (t1,H)) f (.iface 196 (.ptr q 0)) (.int .i64 (i0:Nat)) (.int .i64 (n:Nat)) (.int .i64 (i:Nat)) H) fun r=>(∃b,r.1=.bool b)/\QOk P r.2 q (dnL f l i n) k/\Frame P H0 r.2/\∀b ex rest,QX H q b ex rest l k->QX r.2 q b ex rest (dnL f l i n) k
 | 0,i,n,l,H,_,_,_,_,_,hn,h0=>by omega
 | f+1,i,n,l,H,hQ,hi,hl,hb,hk,hn,h0=>by
  rw[cHpDownC0S];have e1:lbin .mul (.int .i64 2) (.int .i64 (i:Nat))=some (.int .i64 ((2*i:Nat):Int)):=by rw[lbin_mul,wrap_i64 (by omega) (by omega)];congr 2
  have e2:lbin .add (.int .i64 ((2*i:Nat):Int)) (.int .i64 1)=some (.int .i64 ((2*i+1:Nat):Int)):=by rw[lbin_add,wrap_i64 (by omega) (by omega)];congr 2
  rw[e1,ob_some,e2,ob_some,lbin_geq,ob_some];by_cases h1:n<=2*i+1
  ·rw[decide_eq_true (by omega)];simp only[isB_tf,gq_false,ge_false,ob_some,lpick_true,cnd_true];rw[lbin_gtr,ob_some];refine Wp.ret ⟨⟨_,rfl⟩,?_,hk,fun b ex rest hx=> ?_⟩
   ·unfold dnL;rw[if_pos h1];exact hQ
   ·unfold dnL;rw[if_pos h1];exact hx
  ·rw[decide_eq_false (by omega)];have e3:lbin .lss (.int .i64 ((2*i+1:Nat):Int)) (.int .i64 0)=some (.bool false):=by rw[lbin_lss,decide_eq_false (by omega)]
   simp only[isB_ff,gq_true,ob_some,e3,lpick_false,cnd_false,jn_eq];have e4:lbin .add (.int .i64 ((2*i+1:Nat):Int)) (.int .i64 1)=some (.int .i64 ((2*i+2:Nat):Int)):=by rw[lbin_add,wrap_i64 (by omega) (by omega)];congr 2
   rw[e4,ob_some,lbin_lss,ob_some];have fin:∀(H1:Heap),QOk P H1 q l k->Frame P H0 H1->Frame NoF H H1->Wp (ob (linvV O H1 [(178,(203,0)),(196,(203,1))] (.iface 196 (.ptr q 0)) [.int .i64 (dnJ l i n:Nat),.int .i64 (i:Nat)]) fun r22 =>
     ob (iun .not r22.1) fun t23 =>
     cnd t23
     (ob (lbin .gtr (.int .i64 (i:Nat)) (.int .i64 (i0:Nat))) fun t1=>some (t1,r22.2))
     (ob (linvV O r22.2 [(178,(204,0)),(196,(204,1))] (.iface 196 (.ptr q 0)) [.int .i64 (i:Nat),.int .i64 (dnJ l i n:Nat)]) fun r24 =>
     cHpDownC0S cal O N (fun v1 v7 H=>ob (lbin .gtr v7 v1) fun t1=>some (t1,H)) f (.iface 196 (.ptr q 0)) (.int .i64 (i0:Nat)) (.int .i64 (n:Nat)) (.int .i64 (dnJ l i n:Nat)) r24.2)) fun r=>(∃b,r.1=.bool b)/\QOk P r.2 q (dnL (f+1) l i n) k/\Frame P H0 r.2/\∀b ex rest,QX H q b ex rest l k->QX r.2 q b ex rest (dnL (f+1) l i n) k:=by
    intro H1 q1 k1 kn;have hJ:=dnJ_lt (l:=l) (show 2*i+1<n by omega);refine Wp.call (invLess rfl hL q1 (show dnJ l i n<l.length by omega) hi) ?_;rintro⟨v,H2⟩ ⟨g1,g2,g3⟩;simp only at g1 g2 g3 ⊢;subst g1;rw[iun_not,ob_some]
    cases ha:aheadAt l (dnJ l i n) i with
    | false =>
     rw[Bool.not_false,cnd_true,lbin_gtr,ob_some];refine Wp.ret ⟨⟨_,rfl⟩,?_,k1.tr g3.no,fun b ex rest hx=> ?_⟩
     ·unfold dnL;rw[if_neg h1,ha];exact g2
     ·unfold dnL;rw[if_neg h1,ha];exact hx.frame (kn.tr g3)
    | true =>
     rw[Bool.not_true,cnd_false];refine Wp.call (invSwap rfl hS g2 hi (show dnJ l i n<l.length by omega)) ?_;rintro⟨v,H3⟩ ⟨_,k2,k3,_,k5⟩;simp only at k2 k3 k5 ⊢;refine(down_go hL hS f (dnJ l i n) n _ H3 k2 (by rw[iswp_length];omega) (by rw[iswp_length];exact hl) (by rw[iswp_length];exact hb) ((k1.tr g3.no).tr k3) (by omega) (by omega)).mono ?_;rintro⟨v,H4⟩ ⟨m1,m2,m3,m4⟩;refine⟨m1,?_,m3,fun b ex rest hx=> ?_⟩
     ·unfold dnL;rw[if_neg h1,ha];exact m2
     ·unfold dnL;rw[if_neg h1,ha];exact m4 b ex rest (k5 b ex rest (hx.frame (kn.tr g3)))
   by_cases h2:2*i+2<n
   ·rw[decide_eq_true (by omega)];simp only[isB_tt,gq_true,ge_true,ob_some];refine Wp.call (invLess rfl hL hQ (show 2*i+2<l.length by omega) (show 2*i+1<l.length by omega)) ?_;rintro⟨v,H1⟩ ⟨g1,g2,g3⟩;simp only at g1 g2 g3 ⊢;subst g1;rw[lpick_true,ob_some]
    cases ha:aheadAt l (2*i+2) (2*i+1)with
    | true =>
     rw[cnd_true];have hJ:dnJ l i n=2*i+2:=by unfold dnJ;rw[if_pos ⟨h2,ha⟩]
     rw[←hJ];exact fin H1 g2 (hk.tr g3.no) g3
    | false =>
     rw[cnd_false];have hJ:dnJ l i n=2*i+1:=by unfold dnJ;rw[if_neg (by rw[ha];simp)]
     rw[←hJ];exact fin H1 g2 (hk.tr g3.no) g3
   ·rw[decide_eq_false (by omega)];simp only[isB_ft,gq_false,ge_false,ob_some,lpick_false,cnd_false];have hJ:dnJ l i n=2*i+1:=by unfold dnJ;rw[if_neg (by omega)]
    rw[←hJ];exact fin H hQ hk (Frame.refl _ _)
theorem down_s {n:Nat}(hL:LessOk O 203)(hS:SwapOk O 204)(hQ:QOk P H q l k)(hl:n<=l.length)(hi:i<l.length)(hb:l.length<=1000000):Wp (cHpDownS cal O (l.length+1) (.iface 196 (.ptr q 0)) (.int .i64 (i:Nat)) (.int .i64 (n:Nat)) H) fun r=>(∃b,r.1=.bool b)/\QOk P r.2 q (dnL (l.length+1) l i n) k/\Frame P H r.2/\∀b ex rest,QX H q b ex rest l k->QX r.2 q b ex rest (dnL (l.length+1) l i n) k:=by
 unfold cHpDownS cHpDownC4S cHpDownC3S cHpDownC2S cHpDownC1S;exact down_go hL hS (l.length+1) i n l H hQ hi hl hb (Frame.refl _ _) (by omega) (by omega)
end
end Go.Shade
namespace Go.Shade
def X2K2 (f0:FuncId):LC:=.seq (.seq (.reg [ qM 14 5,qO 15 (.bin .leq (.t 14) (k6 200))]) (.cond (.t 15) .skip (.exit 0))) (.seq (.block 1 (.reg [ qM 18 4,qO 19 (.chk (.t 18)),qO 20 (.off (.t 19) 202),qO 21 (.ld1 (.t 20)),qM 22 5,qM 23 5,qO 24 (.callF f0 [(.t 21),(.t 22),(.t 23)])])) (.reg [ qM 16 5,qO 17 (.bin .add (.t 16) (k6 1)),qM 5 17]))
def branchNewC0 (f0 f1 f2 f3:FuncId):LC:=.loop (X2K2 f2)
def branchNewC1 (f0 f1 f2 f3:FuncId):LC:=.block 0 (branchNewC0 f0 f1 f2 f3)
def branchNewC2 (f0 f1 f2 f3:FuncId):LC:=.seq (.reg [ qO 5 (.mv (k6 2))]) (branchNewC1 f0 f1 f2 f3)
def X2K1 (f0:FuncId):LC:=.seq (.drw [ qM 25 4,qO 26 (.callF f0 []),qO 27 (.bld [(.int .i64 0),(.int .i64 0),(.int .i64 0),(.int .i64 0),(.int .i64 0),.nilPtr,.nilPtr,(.str [])] [(0,(1,(k6 2))),(1,(1,(k6 1))),(4,(1,(k6 1))),(6,(1,(.t 26)))]),qO 28 (.box (.t 27)),qO 29 (.chk (.t 25)),qO 30 (.off (.t 29) 1),qO 31 (.ixa 201 1 (.t 30) (k6 1)),⟨none,(.st 1 (.t 31) (.t 28)),none⟩] []) (.seq (.reg [ qM 32 4,qM 2 32]) .ret)
def branchNewC3 (f0 f1 f2 f3:FuncId):LC:=.seq (branchNewC2 f0 f1 f2 f3) (X2K1 f3)
def X2K0 (f0:FuncId):LC:=.reg [ qM 10 3,qO 11 (.callF f0 []),qO 12 (.bld [.nilPtr,.nilPtr,.nilPtr,.nilPtr,.nilPtr,.nilPtr,.nilPtr,.nilPtr,.nilPtr,.nilPtr,.nilPtr,.nilPtr,.nilPtr,.nilPtr,.nilPtr,.nilPtr,.nilPtr,.nilPtr,.nilPtr,.nilPtr,.nilPtr,.nilPtr,.nilPtr,.nilPtr,.nilPtr,.nilPtr,.nilPtr,.nilPtr,.nilPtr,.nilPtr,.nilPtr,.nilPtr,.nilPtr,.nilPtr,.nilPtr,.nilPtr,.nilPtr,.nilPtr,.nilPtr,.nilPtr,.nilPtr,.nilPtr,.nilPtr,.nilPtr,.nilPtr,.nilPtr,.nilPtr,.nilPtr,.nilPtr,.nilPtr,.nilPtr,.nilPtr,.nilPtr,.nilPtr,.nilPtr,.nilPtr,.nilPtr,.nilPtr,.nilPtr,.nilPtr,.nilPtr,.nilPtr,.nilPtr,.nilPtr,.nilPtr,.nilPtr,.nilPtr,.nilPtr,.nilPtr,.nilPtr,.nilPtr,.nilPtr,.nilPtr,.nilPtr,.nilPtr,.nilPtr,.nilPtr,.nilPtr,.nilPtr,.nilPtr,.nilPtr,.nilPtr,.nilPtr,.nilPtr,.nilPtr,.nilPtr,.nilPtr,.nilPtr,.nilPtr,.nilPtr,.nilPtr,.nilPtr,.nilPtr,.nilPtr,.nilPtr,.nilPtr,.nilPtr,.nilPtr,.nilPtr,.nilPtr,.nilPtr,.nilPtr,.nilPtr,.nilPtr,.nilPtr,.nilPtr,.nilPtr,.nilPtr,.nilPtr,.nilPtr,.nilPtr,.nilPtr,.nilPtr,.nilPtr,.nilPtr,.nilPtr,.nilPtr,.nilPtr,.nilPtr,.nilPtr,.nilPtr,.nilPtr,.nilPtr,.nilPtr,.nilPtr,.nilPtr,.nilPtr,.nilPtr,.nilPtr,.nilPtr,.nilPtr,.nilPtr,.nilPtr,.nilPtr,.nilPtr,.nilPtr,.nilPtr,.nilPtr,.nilPtr,.nilPtr,.nilPtr,.nilPtr,.nilPtr,.nilPtr,.nilPtr,.nilPtr,.nilPtr,.nilPtr,.nilPtr,.nilPtr,.nilPtr,.nilPtr,.nilPtr,.nilPtr,.nilPtr,.nilPtr,.nilPtr,.nilPtr,.nilPtr,.nilPtr,.nilPtr,.nilPtr,.nilPtr,.nilPtr,.nilPtr,.nilPtr,.nilPtr,.nilPtr,.nilPtr,.nilPtr,.nilPtr,.nilPtr,.nilPtr,.nilPtr,.nilPtr,.nilPtr,.nilPtr,.nilPtr,.nilPtr,.nilPtr,.nilPtr,.nilPtr,.nilPtr,.nilPtr,.nilPtr,.nilPtr,.nilPtr,.nilPtr,.nilPtr,.nilPtr,.nilPtr,.nilPtr,.nilPtr,.nilPtr,.nilPtr,.nilPtr,.nilPtr,.nilPtr,.nilPtr,.nilPtr,.nilPtr,.nilPtr,.nilPtr] [(0,(1,(.t 10))),(202,(1,(.t 11)))]),qO 13 (.box (.t 12)),qM 4 13]
def branchNewC4 (f0 f1 f2 f3:FuncId):LC:=.seq (X2K0 f1) (branchNewC3 f0 f1 f2 f3)
def X2K3 :LC:=.seq (.reg [ qM 8 3,qO 9 (.eqv false .ptr (.t 8) (.k .nilPtr))]) (.cond (.t 9) (.seq (.reg [ qO 2 (.mv (.k .nilPtr))]) .ret) .skip)
def branchNewC5 (f0 f1 f2 f3:FuncId):LC:=.seq X2K3 (branchNewC4 f0 f1 f2 f3)
def X2K4 (f0:FuncId):LC:=.reg [ qM 6 0,qO 7 (.callF f0 [(.t 6)]),qM 3 7]
def branchNewC6 (f0 f1 f2 f3:FuncId):LC:=.seq (X2K4 f0) (branchNewC5 f0 f1 f2 f3)
def branchNewC7 (f0 f1 f2 f3:FuncId):LC:=.seq (.reg [ qO 2 (.mv (.k .nilPtr))]) (branchNewC6 f0 f1 f2 f3)
def branchNewC0S (cal:CB)(O:Oracle)(N:Nat)(f0 f1 f2 f3:FuncId)(gE0:IV->Heap->OH):Nat->IV->IV->Heap->OH
 | 0,_,_,_=>none
 | n+1,v4,v5,H =>ob (lbin .leq v5 (.int .i64 200)) fun t1 =>cnd t1
  (ob (lchk v4) fun t2 =>ob (loff t2 202) fun t3 =>ob (lload1 H t3) fun t4 =>ob (O f2 [t4,v5,v5] H) fun r5 =>ob (lbin .add v5 (.int .i64 1)) fun t6 =>
   branchNewC0S cal O N f0 f1 f2 f3 gE0 n v4 t6 r5.2)
  (gE0 v4 H)
theorem branchNewC0Eq (cal:CB)(O:Oracle)(N:Nat)(f0 f1 f2 f3:FuncId){k:KT (IV×Heap)}(gE0:IV->Heap->OH)(hgE0:∀E H,k (.exit 0) E H=gE0 (lk E 4) H):∀(n:Nat) (E:Sg) (H:Heap),itK (lxK cal O N (X2K2 f2)) n E H k=branchNewC0S cal O N f0 f1 f2 f3 gE0 n (lk E 4) (lk E 5) H:=by
 have hk:k=(kE 0 (fun E H=>gE0 (lk E 4) H) k):=(kE_mk hgE0 rfl);intro n
 induction n with
 | zero=>intro E H;rfl
 | succ n ih =>
  intro E H;rw[itK_succ,seqK_mk (g:=fun E H=>branchNewC0S cal O N f0 f1 f2 f3 gE0 n (lk E 4) (lk E 5) H) ih,hk];kernel_rfl
def branchNewC1S (cal:CB)(O:Oracle)(N:Nat)(f0 f1 f2 f3:FuncId)(gN:IV->Heap->OH)(v4 v5:IV)(H:Heap):OH :=
  branchNewC0S cal O N f0 f1 f2 f3 (fun v4 H=>gN v4 H) N v4 v5 H
theorem branchNewC1Eq (cal:CB)(O:Oracle)(N:Nat)(f0 f1 f2 f3:FuncId){k:KT (IV×Heap)}(gN:IV->Heap->OH)(hgN:∀E H,k .normal E H=gN (lk E 4) H):∀(E:Sg) (H:Heap),lxK cal O N (branchNewC1 f0 f1 f2 f3) E H k=branchNewC1S cal O N f0 f1 f2 f3 gN (lk E 4) (lk E 5) H:=by
 have hk:k=(kN (fun E H=>gN (lk E 4) H) k):=(kN_mk hgN rfl);intro E H;rw[hk];show lxK cal O N (branchNewC0 f0 f1 f2 f3) E H (blockK 0 (kN (fun E H=>gN (lk E 4) H) k))=_;exact branchNewC0Eq cal O N f0 f1 f2 f3 (k:=(blockK 0 (kN (fun E H=>gN (lk E 4) H) k))) gN (fun _ _=>rfl) N E H
def branchNewC2S (cal:CB)(O:Oracle)(N:Nat)(f0 f1 f2 f3:FuncId)(gN:IV->Heap->OH)(v4:IV)(H:Heap):OH :=
  branchNewC1S cal O N f0 f1 f2 f3 (fun v4 H=>gN v4 H) v4 (.int .i64 2) H
theorem branchNewC2Eq (cal:CB)(O:Oracle)(N:Nat)(f0 f1 f2 f3:FuncId){k:KT (IV×Heap)}(gN:IV->Heap->OH)(hgN:∀E H,k .normal E H=gN (lk E 4) H):∀(E:Sg) (H:Heap),lxK cal O N (branchNewC2 f0 f1 f2 f3) E H k=branchNewC2S cal O N f0 f1 f2 f3 gN (lk E 4) H:=by
 have hk:k=(kN (fun E H=>gN (lk E 4) H) k):=(kN_mk hgN rfl);intro E H;rw[hk];show lxK cal O N (.reg [ qO 5 (.mv (k6 2))]) E H (seqK (lxK cal O N (branchNewC1 f0 f1 f2 f3)) (kN (fun E H=>gN (lk E 4) H) k))=_;rw[seqK_mk (g:=fun E H=>branchNewC1S cal O N f0 f1 f2 f3 gN (lk E 4) (lk E 5) H) (branchNewC1Eq cal O N f0 f1 f2 f3 (k:=(kN (fun E H=>gN (lk E 4) H) k)) gN (fun _ _=>rfl))];kernel_rfl
def branchNewC3S (cal:CB)(O:Oracle)(N:Nat)(f0 f1 f2 f3:FuncId)(v4:IV)(H:Heap):OH :=
  branchNewC2S cal O N f0 f1 f2 f3 (fun v4 H=>ob (O f3 [] H) fun r1 =>ob (lbld [(.int .i64 0),(.int .i64 0),(.int .i64 0),(.int .i64 0),(.int .i64 0),.nilPtr,.nilPtr,(.str [])] [(0,1,(.int .i64 2)),(1,1,(.int .i64 1)),(4,1,(.int .i64 1)),(6,1,r1.1)]) fun t2 =>ob (lbox r1.2 t2) fun r3 =>ob (lchk v4) fun t4 =>ob (loff t4 1) fun t5 =>ob (lixa 201 1 t5 (.int .i64 1)) fun t6 =>ob (lstV r3.2 1 t6 r3.1) fun r7 =>some (v4,r7.2)) v4 H
theorem branchNewC3Eq (cal:CB)(O:Oracle)(N:Nat)(f0 f1 f2 f3:FuncId){k:KT (IV×Heap)}(hR:∀E H,k .ret E H=resK [(.tmp 2)] [] E H):∀(E:Sg) (H:Heap),lxK cal O N (branchNewC3 f0 f1 f2 f3) E H k=branchNewC3S cal O N f0 f1 f2 f3 (lk E 4) H:=by
 have hk:k=(kR (resK [(.tmp 2)] []) k):=(kR_mk hR rfl);intro E H;rw[hk];show lxK cal O N (branchNewC2 f0 f1 f2 f3) E H (seqK (lxK cal O N (X2K1 f3)) (kR (resK [(.tmp 2)] []) k))=_;exact branchNewC2Eq cal O N f0 f1 f2 f3 (k:=(seqK (lxK cal O N (X2K1 f3)) (kR (resK [(.tmp 2)] []) k))) (fun v4 H=>ob (O f3 [] H) fun r1 =>ob (lbld [(.int .i64 0),(.int .i64 0),(.int .i64 0),(.int .i64 0),(.int .i64 0),.nilPtr,.nilPtr,(.str [])] [(0,1,(.int .i64 2)),(1,1,(.int .i64 1)),(4,1,(.int .i64 1)),(6,1,r1.1)]) fun t2 =>ob (lbox r1.2 t2) fun r3 =>ob (lchk v4) fun t4 =>ob (loff t4 1) fun t5 =>ob (lixa 201 1 t5 (.int .i64 1)) fun t6 =>ob (lstV r3.2 1 t6 r3.1) fun r7 =>some (v4,r7.2)) (fun _ _=>rfl) E H
def branchNewC4S (cal:CB)(O:Oracle)(N:Nat)(f0 f1 f2 f3:FuncId)(v3:IV)(H:Heap):OH :=
 ob (O f1 [] H) fun r1 =>ob (lbld [.nilPtr,.nilPtr,.nilPtr,.nilPtr,.nilPtr,.nilPtr,.nilPtr,.nilPtr,.nilPtr,.nilPtr,.nilPtr,.nilPtr,.nilPtr,.nilPtr,.nilPtr,.nilPtr,.nilPtr,.nilPtr,.nilPtr,.nilPtr,.nilPtr,.nilPtr,.nilPtr,.nilPtr,.nilPtr,.nilPtr,.nilPtr,.nilPtr,.nilPtr,.nilPtr,.nilPtr,.nilPtr,.nilPtr,.nilPtr,.nilPtr,.nilPtr,.nilPtr,.nilPtr,.nilPtr,.nilPtr,.nilPtr,.nilPtr,.nilPtr,.nilPtr,.nilPtr,.nilPtr,.nilPtr,.nilPtr,.nilPtr,.nilPtr,.nilPtr,.nilPtr,.nilPtr,.nilPtr,.nilPtr,.nilPtr,.nilPtr,.nilPtr,.nilPtr,.nilPtr,.nilPtr,.nilPtr,.nilPtr,.nilPtr,.nilPtr,.nilPtr,.nilPtr,.nilPtr,.nilPtr,.nilPtr,.nilPtr,.nilPtr,.nilPtr,.nilPtr,.nilPtr,.nilPtr,.nilPtr,.nilPtr,.nilPtr,.nilPtr,.nilPtr,.nilPtr,.nilPtr,.nilPtr,.nilPtr,.nilPtr,.nilPtr,.nilPtr,.nilPtr,.nilPtr,.nilPtr,.nilPtr,.nilPtr,.nilPtr,.nilPtr,.nilPtr,.nilPtr,.nilPtr,.nilPtr,.nilPtr,.nilPtr,.nilPtr,.nilPtr,.nilPtr,.nilPtr,.nilPtr,.nilPtr,.nilPtr,.nilPtr,.nilPtr,.nilPtr,.nilPtr,.nilPtr,.nilPtr,.nilPtr,.nilPtr,.nilPtr,.nilPtr,.nilPtr,.nilPtr,.nilPtr,.nilPtr,.nilPtr,.nilPtr,.nilPtr,.nilPtr,.nilPtr,.nilPtr,.nilPtr,.nilPtr,.nilPtr,.nilPtr,.nilPtr,.nilPtr,.nilPtr,.nilPtr,.nilPtr,.nilPtr,.nilPtr,.nilPtr,.nilPtr,.nilPtr,.nilPtr,.nilPtr,.nilPtr,.nilPtr,.nilPtr,.nilPtr,.nilPtr,.nilPtr,.nilPtr,.nilPtr,.nilPtr,.nilPtr,.nilPtr,.nilPtr,.nilPtr,.nilPtr,.nilPtr,.nilPtr,.nilPtr,.nilPtr,.nilPtr,.nilPtr,.nilPtr,.nilPtr,.nilPtr,.nilPtr,.nilPtr,.nilPtr,.nilPtr,.nilPtr,.nilPtr,.nilPtr,.nilPtr,.nilPtr,.nilPtr,.nilPtr,.nilPtr,.nilPtr,.nilPtr,.nilPtr,.nilPtr,.nilPtr,.nilPtr,.nilPtr,.nilPtr,.nilPtr,.nilPtr,.nilPtr,.nilPtr,.nilPtr,.nilPtr,.nilPtr,.nilPtr,.nilPtr,.nilPtr,.nilPtr,.nilPtr,.nilPtr,.nilPtr,.nilPtr,.nilPtr] [(0,1,v3),(202,1,r1.1)]) fun t2 =>ob (lbox r1.2 t2) fun r3 =>
  branchNewC3S cal O N f0 f1 f2 f3 r3.1 r3.2
theorem branchNewC4Eq (cal:CB)(O:Oracle)(N:Nat)(f0 f1 f2 f3:FuncId){k:KT (IV×Heap)}(hR:∀E H,k .ret E H=resK [(.tmp 2)] [] E H):∀(E:Sg) (H:Heap),lxK cal O N (branchNewC4 f0 f1 f2 f3) E H k=branchNewC4S cal O N f0 f1 f2 f3 (lk E 3) H:=by
 have hk:k=(kR (resK [(.tmp 2)] []) k):=(kR_mk hR rfl);intro E H;rw[hk];show lxK cal O N (X2K0 f1) E H (seqK (lxK cal O N (branchNewC3 f0 f1 f2 f3)) (kR (resK [(.tmp 2)] []) k))=_;rw[seqK_mk (g:=fun E H=>branchNewC3S cal O N f0 f1 f2 f3 (lk E 4) H) (branchNewC3Eq cal O N f0 f1 f2 f3 (k:=(kR (resK [(.tmp 2)] []) k)) (fun _ _=>rfl))];kernel_rfl
def branchNewC5S (cal:CB)(O:Oracle)(N:Nat)(f0 f1 f2 f3:FuncId)(v3:IV)(H:Heap):OH :=
 ob (leqv false (leq .ptr v3 .nilPtr)) fun t1 =>cnd t1
 (some (.nilPtr,H))
  (branchNewC4S cal O N f0 f1 f2 f3 v3 H)
theorem branchNewC5Eq (cal:CB)(O:Oracle)(N:Nat)(f0 f1 f2 f3:FuncId){k:KT (IV×Heap)}(hR:∀E H,k .ret E H=resK [(.tmp 2)] [] E H):∀(E:Sg) (H:Heap),lxK cal O N (branchNewC5 f0 f1 f2 f3) E H k=branchNewC5S cal O N f0 f1 f2 f3 (lk E 3) H:=by
 have hk:k=(kR (resK [(.tmp 2)] []) k):=(kR_mk hR rfl);intro E H;rw[hk];show lxK cal O N X2K3 E H (seqK (lxK cal O N (branchNewC4 f0 f1 f2 f3)) (kR (resK [(.tmp 2)] []) k))=_;rw[seqK_mk (g:=fun E H=>branchNewC4S cal O N f0 f1 f2 f3 (lk E 3) H) (branchNewC4Eq cal O N f0 f1 f2 f3 (k:=(kR (resK [(.tmp 2)] []) k)) (fun _ _=>rfl))];kernel_rfl
def branchNewC6S (cal:CB)(O:Oracle)(N:Nat)(f0 f1 f2 f3:FuncId)(v0:IV)(H:Heap):OH :=
 ob (O f0 [v0] H) fun r1 =>
  branchNewC5S cal O N f0 f1 f2 f3 r1.1 r1.2
theorem branchNewC6Eq (cal:CB)(O:Oracle)(N:Nat)(f0 f1 f2 f3:FuncId){k:KT (IV×Heap)}(hR:∀E H,k .ret E H=resK [(.tmp 2)] [] E H):∀(E:Sg) (H:Heap),lxK cal O N (branchNewC6 f0 f1 f2 f3) E H k=branchNewC6S cal O N f0 f1 f2 f3 (lk E 0) H:=by
 have hk:k=(kR (resK [(.tmp 2)] []) k):=(kR_mk hR rfl);intro E H;rw[hk];show lxK cal O N (X2K4 f0) E H (seqK (lxK cal O N (branchNewC5 f0 f1 f2 f3)) (kR (resK [(.tmp 2)] []) k))=_;rw[seqK_mk (g:=fun E H=>branchNewC5S cal O N f0 f1 f2 f3 (lk E 3) H) (branchNewC5Eq cal O N f0 f1 f2 f3 (k:=(kR (resK [(.tmp 2)] []) k)) (fun _ _=>rfl))];kernel_rfl
def branchNewC7S (cal:CB)(O:Oracle)(N:Nat)(f0 f1 f2 f3:FuncId)(v0:IV)(H:Heap):OH :=
  branchNewC6S cal O N f0 f1 f2 f3 v0 H
theorem branchNewC7Eq (cal:CB)(O:Oracle)(N:Nat)(f0 f1 f2 f3:FuncId){k:KT (IV×Heap)}(hR:∀E H,k .ret E H=resK [(.tmp 2)] [] E H):∀(E:Sg) (H:Heap),lxK cal O N (branchNewC7 f0 f1 f2 f3) E H k=branchNewC7S cal O N f0 f1 f2 f3 (lk E 0) H:=by
 have hk:k=(kR (resK [(.tmp 2)] []) k):=(kR_mk hR rfl);intro E H;rw[hk];show lxK cal O N (.reg [ qO 2 (.mv (.k .nilPtr))]) E H (seqK (lxK cal O N (branchNewC6 f0 f1 f2 f3)) (kR (resK [(.tmp 2)] []) k))=_;rw[seqK_mk (g:=fun E H=>branchNewC6S cal O N f0 f1 f2 f3 (lk E 0) H) (branchNewC6Eq cal O N f0 f1 f2 f3 (k:=(kR (resK [(.tmp 2)] []) k)) (fun _ _=>rfl))];kernel_rfl
def branchNew (f0 f1 f2 f3:FuncId):LFun:=⟨(branchNewC7 f0 f1 f2 f3),[(.tmp 2)],33⟩
def branchNewS (cal:CB)(O:Oracle)(N:Nat)(f0 f1 f2 f3:FuncId)(v0:IV)(H:Heap):OH :=
  branchNewC7S cal O N f0 f1 f2 f3 v0 H
theorem branchNewEq (cal:CB)(O:Oracle)(N:Nat)(f0 f1 f2 f3:FuncId)(v0:IV)(H:Heap):lrunK cal O N (branchNew f0 f1 f2 f3) [v0] H=branchNewS cal O N f0 f1 f2 f3 v0 H:=by
 show lxK cal O N (branchNewC7 f0 f1 f2 f3) (initFrom 0 [v0]) H (endK [(.tmp 2)])=_;exact branchNewC7Eq cal O N f0 f1 f2 f3 (k:=(endK [(.tmp 2)])) (fun _ _=>rfl) (initFrom 0 [v0]) H
def blockNewS (cal:CB)(O:Oracle)(N:Nat)(v0:IV)(H:Heap):OH :=
 ob (lbin .lss v0 (.int .i64 0)) fun t1 =>ob (gq (isB t1 false) (some v0)) fun t2 =>ob (gq (isB t1 false) (lbin .gtr t2 (.int .i64 65536))) fun t3 =>ob (lpick t1 (.bool true) t3) fun t4 =>cnd t4
 (some (.nilPtr,H))
 (ob (lbld [(.int .i64 0),(.int .i64 0)] [(0,1,v0)]) fun t5 =>ob (lbox H t5) fun r6 =>some (r6.1,r6.2))
def dentsNewS (cal:CB)(O:Oracle)(N:Nat)(H:Heap):OH :=
 ob (lbld [.nilSlice] []) fun t1 =>ob (lbox H t1) fun r2 =>some (r2.1,r2.2)
def QiAheadS (cal:CB)(O:Oracle)(N:Nat)(v0 v1:IV)(H:Heap):OH :=
 ob (lbox H v0) fun r1 =>ob (lbox r1.2 v1) fun r2 =>ob (loff r1.1 0) fun t3 =>ob (lload1 r2.2 t3) fun t4 =>ob (loff r2.1 0) fun t5 =>ob (lload1 r2.2 t5) fun t6 =>ob (lbin .neq t4 t6) fun t7 =>cnd t7
 (ob (loff r1.1 0) fun t8 =>ob (lload1 r2.2 t8) fun t9 =>ob (loff r2.1 0) fun t10 =>ob (lload1 r2.2 t10) fun t11 =>ob (lbin .lss t9 t11) fun t12 =>some (t12,r2.2))
 (ob (loff r1.1 2) fun t13 =>ob (lload1 r2.2 t13) fun t14 =>ob (loff r2.1 2) fun t15 =>ob (lload1 r2.2 t15) fun t16 =>ob (lbin .lss t14 t16) fun t17 =>some (t17,r2.2))
def QqPopS (cal:CB)(O:Oracle)(N:Nat)(f0 f1:FuncId)(v0:IV)(H:Heap):OH :=
 ob (O f0 [v0] H) fun r1 =>ob (lbin .eql r1.1 (.int .i64 0)) fun t2 =>cnd t2
 (some ((.tuple [(.int .i64 0),(.int .i64 0),(.bool false)]),r1.2))
 (ob (lchk v0) fun t3 =>ob (loff t3 0) fun t4 =>ob (some (.iface 196 t4)) fun t5 =>ob (O f1 [t5] r1.2) fun r6 =>ob (lasrt 198 (.agg [(.int .i64 0),(.int .i64 0),(.int .i64 0)]) false r6.1) fun t7 =>ob (lzbox r6.2 (.agg [(.int .i64 0),(.int .i64 0),(.int .i64 0)])) fun r8 =>ob (lstV r8.2 3 r8.1 t7) fun r9 =>ob (loff r8.1 0) fun t10 =>ob (lload1 r9.2 t10) fun t11 =>ob (loff r8.1 1) fun t12 =>ob (lload1 r9.2 t12) fun t13 =>some ((.tuple [t11,t13,(.bool true)]),r9.2))
end Go.Shade
namespace Go.Shade
variable {H : Heap} {P : Nat -> Prop} {k : Int} {l : List It} {q : Nat} {x : It}
section
variable {cal : FuncId -> Bool} {O : Oracle} {N : Nat}
theorem ahead_s (H:Heap)(x y:It):Wp (QiAheadS cal O N (.agg x.c) (.agg y.c) H) fun r=>r.1=.bool (ahead x y)/\Frame NoF H r.2:=by
 unfold QiAheadS;have b1:lbox H (.agg x.c)=some (.ptr H.length 0,H++[IObj.row x.c false]):=lbox_agg x.c_one;rw[b1,ob_some];simp only;have r1:(H++[IObj.row x.c false])[H.length]? =some (.row x.c false):=newRow;have k1:Frame NoF H (H++[IObj.row x.c false]):=Frame.push _ _ _;generalize H++[IObj.row x.c false]=K at *;have b2:lbox K (.agg y.c)=some (.ptr K.length 0,K++[IObj.row y.c false]):=lbox_agg y.c_one;rw[b2,ob_some];simp only;have k2:Frame NoF K (K++[IObj.row y.c false]):=Frame.push _ _ _;have r2:=k2.get (fun h=>h) r1;have r3:(K++[IObj.row y.c false])[K.length]? =some (.row y.c false):=newRow;generalize K++[IObj.row y.c false]=K2 at *;have e0:lload1 K2 (.ptr H.length 0)=some (.int .i64 x.key):=ld1 r2;have e1:lload1 K2 (.ptr K.length 0)=some (.int .i64 y.key):=ld1 r3;have e2:lload1 K2 (.ptr H.length 2)=some (.int .i64 x.push):=ld1 r2;have e3:lload1 K2 (.ptr K.length 2)=some (.int .i64 y.push):=ld1 r3;simp only[loff_ptr,Nat.zero_add,ob_some,e0,e1,e2,e3,lbin_neq,lbin_lss];refine Wp.ndec (fun hp=>Wp.ret ⟨?_,k1.tr k2⟩) (fun hp=>Wp.ret ⟨?_,k1.tr k2⟩)
 ·unfold ahead;rw[if_neg hp]
 ·unfold ahead;rw[if_pos hp]
def Tight (sv:IV):Prop:=sv=.nilSlice∨∃r n,sv=.slice r 0 n n false 3
def TQ (H:Heap)(q:Nat):Prop:=∃sv k,H[q]? =some (.row [sv,.int .i64 k] false)/\Tight sv
theorem app_item {P:Nat->Prop}{H:Heap}{sv xv:IV}{l:List It}{x:It}(h:QSl P H sv l)(hP:∀i,P i->i<H.length)(hl:xlen xv=some 1)(hc:lxcells H 3 xv 1=some x.c)(hb:l.length<=1000000) :
  Wp (lapp H 3 24 sv xv) fun r=>Frame P H r.2/\QSl (fun i=>P i∨(H.length<=i/\i<r.2.length)) r.2 r.1 (l++[x])/\(Tight sv->Tight r.1):=by
 have hi:itcs [x]=x.c:=rfl;unfold lapp lappend;rw[hl];simp only[Option.bind_some];rw[if_neg (by omega),hc];simp only[Option.bind_some];rw[if_pos ⟨rfl,rfl⟩];rcases h with⟨rfl,rfl⟩ | ⟨r,rest,ex,rfl,h2,h3⟩
 ·rw[lfresh_eq (by decide) rfl];refine⟨_,rfl,Frame.push _ _ _,.inr ⟨H.length,[],false,rfl,.inr ⟨Nat.le_refl _,by simp⟩,?_⟩,fun _=>.inr ⟨_,_,rfl⟩⟩;exact newRow
 ·cases rest with
  | cons y rest =>
   simp only;rw[if_pos (by simp),h3];simp only;have hlen:0+l.length*3+x.c.length<=(itcs (l++y::rest)).length:=by rw[itcs_length,It.c_length];simp;omega
   rw[if_pos hlen];refine⟨_,rfl,Frame.set _ _ h2,.inr ⟨r,rest,ex,?_,.inl h2,?_⟩,fun ht=> ?_⟩
   ·simp only[List.length_append,List.length_cons,List.length_nil];congr 1;omega
   ·rw[Nat.zero_add,Nat.mul_comm,itcs_put (by simp),setAt h3];simp
   ·rcases ht with e | ⟨r',n',e⟩
    ·cases e
    ·injection e with _ _ e1 e2
     simp only[List.length_cons]at e2;omega
  | nil =>
   simp only;rw[if_neg (by simp)];have hold:lsl H 3 (.slice r 0 l.length (l.length+([]:List It).length) ex 3) l.length=some (itcs l):=by
    simp only[lsl,Nat.le_refl,if_true];split
    ·rename_i e;have:l=[]:=List.length_eq_zero_iff.1 e;subst this;rfl
    ·simp only[irow,h3,List.append_nil,Nat.zero_add];rw[if_pos (by rw[itcs_length];omega),List.drop_zero,List.take_of_length_le (by rw[itcs_length];omega)]
   rw[hold];simp only[Option.bind_some];have hlen:(itcs l++x.c).length=(l.length+1)*3:=by rw[List.length_append,itcs_length,It.c_length];omega
   have hk:(l.length+1)*24<=140737488355328:=by omega
   have hrow:itcs l++x.c=itcs (l++[x]):=by rw[itcs_append];rfl
   cases ex with
   | true =>
    rw[if_pos rfl,lfresh_eq hk hlen];refine⟨_,rfl,Frame.push _ _ _,.inr ⟨H.length,[],false,?_,.inr ⟨Nat.le_refl _,by simp⟩,?_⟩,fun _=>.inr ⟨_,_,rfl⟩⟩
    ·simp
    ·rw[newRow,hrow,List.append_nil]
   | false =>
    rw[if_neg (by simp),h3];simp only;rw[if_pos trivial,lfresh_eq hk hlen];refine⟨_,rfl,(Frame.set _ _ h2).tr (Frame.push _ _ _),.inr ⟨(H.set r .dead).length,[],false,?_,.inr ⟨by simp,by simp⟩,?_⟩,fun _=>.inr ⟨_,_,rfl⟩⟩
    ·simp
    ·rw[newRow,hrow,List.append_nil]
def IPushOk (O:Oracle)(t:Nat)(f:FuncId):Prop:=∀(P:Nat->Prop) (H:Heap) (q:Nat) (l:List It) (k:Int) (x:It),QOk P H q l k->l.length<=1000000->Wp (O f [.ptr q 0,.iface t (.agg x.c)] H) fun r=>r.1=.tuple []/\Frame P H r.2/\(TQ H q->TQ r.2 q)/\∃P',QOk P' r.2 q (l++[x]) k/\∀i,P' i->P i∨H.length<=i
theorem ipush_s (hQ:QOk P H q l k)(hb:l.length<=1000000):Wp (QisPushS cal O N (.ptr q 0) (.iface 198 (.agg x.c)) H) fun r=>r.1=.tuple []/\Frame P H r.2/\(TQ H q->TQ r.2 q)/\∃P',QOk P' r.2 q (l++[x]) k/\∀i,P' i->P i∨H.length<=i:=by
 obtain⟨h1,h2,sv,h3,h4⟩:=id hQ;unfold QisPushS;have e1:lload1 H (.ptr q 0)=some sv:=ld1 h3;have e2:lasrt 198 (.agg [(.int .i64 0),(.int .i64 0),(.int .i64 0)]) false (.iface 198 (.agg x.c))=some (.agg x.c):=rfl;have e3:lbldS H 3 1 [(.int .i64 0),(.int .i64 0),(.int .i64 0)] [(0,.agg x.c)]=some (.slice H.length 0 1 1 true 3,H++[.row x.c false]):=rfl;rw[lchk_ptr,ob_some,e1,ob_some,e2,ob_some,e3,ob_some];simp only;have k1:Frame NoF H (H++[IObj.row x.c false]):=Frame.push _ _ _;have r1:(H++[IObj.row x.c false])[H.length]? =some (.row x.c false):=newRow;have l1:(H++[IObj.row x.c false]).length=H.length+1:=by simp
 generalize H++[IObj.row x.c false]=K at *;have q1:=k1.get (fun h=>h) h3;have e4:lload1 K (.ptr q 0)=some sv:=ld1 q1;refine Wp.call (app_item (x:=x) (h4.frame k1 fun _ _ h=>h) (fun i hi=>by have:=h2 i hi.1;omega) rfl (by simp[lxcells,lsl,irow,r1,It.c_length];rfl) hb) ?_;rintro⟨w,K2⟩ ⟨g1,g2,gt⟩;simp only at g1 g2 gt ⊢;have q2:=g1.get (fun h=>h.2 rfl) q1;have lq:=(ges q2).1;rw[ob_some,st1 q2 g2.one (by simp),ob_some,e4];simp only[ivo_refl,Bool.not_true,Bool.not_false,Bool.false_or,Bool.and_self,ckd_true];refine Wp.ret ⟨rfl,?_,fun ht=>⟨w,k,by rw[setAt q2];rfl,gt (by obtain⟨sv2,k2,e,t⟩:=ht;rw[h3]at e;cases e;exact t)⟩,fun i=>P i∨(H.length<=i/\i<K2.length),⟨.inl h1,fun i hi=> ?_,w,?_,?_⟩,fun i hi=>hi.imp (fun h=>h) fun h=>h.1⟩
 ·exact((k1.no).tr (g1.mono fun i hi=>hi.1)).tr (Frame.set _ _ h1)
 ·rcases hi with h | h
  ·have:=h2 i h;have:=g1.1;simp;omega
  ·simpa using h.2
 ·rw[setAt q2];rfl
 ·refine(g2.frame (Frame.set (F:=fun i=>i=q) K2 _ rfl) ?_).mono ?_
  ·intro i hi e;rcases hi with h | h
   ·exact h.2 e
   ·have:=h2 q h1;omega
  ·intro i hi;rcases hi with h | h
   ·exact⟨.inl h.1,h.2⟩
   ·exact⟨.inr ⟨by omega,h.2⟩,by have:=h2 q h1;omega⟩
def HPushOk (O:Oracle)(t t':Nat)(f:FuncId):Prop:=∀(P:Nat->Prop) (H:Heap) (q:Nat) (l:List It) (k:Int) (x:It),QOk P H q l k->l.length<1000000->Wp (O f [.iface t (.ptr q 0),.iface t' (.agg x.c)] H) fun r=>r.1=.tuple []/\Frame P H r.2/\(TQ H q->TQ r.2 q)/\∃P',QOk P' r.2 q (upL (l.length+1) (l++[x]) l.length) k/\∀i,P' i->P i∨H.length<=i
theorem hpush_s {fu:FuncId}(hI:IPushOk O 198 207)(hL:ILenOk O 117)(hU:UpOk O 196 fu)(hQ:QOk P H q l k)(hb:l.length<1000000):Wp (cHpPushS cal O N fu (.iface 196 (.ptr q 0)) (.iface 198 (.agg x.c)) H) fun r=>r.1=.tuple []/\Frame P H r.2/\(TQ H q->TQ r.2 q)/\∃P',QOk P' r.2 q (upL (l.length+1) (l++[x]) l.length) k/\∀i,P' i->P i∨H.length<=i:=by
 unfold cHpPushS;rw[linv0 (f:=207) rfl];refine Wp.call (hI P H q l k x hQ (by omega)) ?_;rintro⟨v,H1⟩ ⟨_,g2,gt,P',g3,g4⟩;simp only at g2 g3 gt ⊢;rw[invLen (f:=117) rfl hL g3,ob_some];have e1:lbin .sub (.int .i64 ((l++[x]).length:Nat)) (.int .i64 1)=some (.int .i64 (l.length:Nat)):=by rw[lbin_sub,wrap_i64 (by rw[List.length_append,List.length_singleton];omega) (by rw[List.length_append,List.length_singleton];omega)];simp
 simp only;rw[e1,ob_some];refine Wp.call (hU P' H1 q (l++[x]) k l.length g3 (by simp) (by simp;omega)) ?_;rintro⟨v,H2⟩ ⟨_,m2,m3,m4⟩;simp only at m2 m3 m4 ⊢;refine Wp.ret ⟨rfl,g2.trans m3 fun i hi hp=>by rcases g4 i hp with h | h;exact h;omega,fun ht=>by obtain⟨sv,k',e,t⟩:=gt ht;exact⟨sv,k',m4.trans e,t⟩,P',by simpa using m2,g4⟩
def QPushOk (O:Oracle)(f:FuncId):Prop:=∀(P:Nat->Prop) (H:Heap) (q:Nat) (l:List It) (k key n:Int),QOk P H q l k->l.length<1000000->Wp (O f [.ptr q 0,.int .i64 key,.int .i64 n] H) fun r=>r.1=.tuple []/\Frame P H r.2/\(TQ H q->TQ r.2 q)/\∃P',QOk P' r.2 q (upL (l.length+1) (l++[⟨key,n,k⟩]) l.length) (IntKind.wrap .i64 (k+1))/\∀i,P' i->P i∨H.length<=i
theorem qpush_s {fh:FuncId}(hH:HPushOk O 196 198 fh){key n:Int}(hQ:QOk P H q l k)(hb:l.length<1000000):Wp (QqPushS cal O N fh (.ptr q 0) (.int .i64 key) (.int .i64 n) H) fun r=>r.1=.tuple []/\Frame P H r.2/\(TQ H q->TQ r.2 q)/\∃P',QOk P' r.2 q (upL (l.length+1) (l++[⟨key,n,k⟩]) l.length) (IntKind.wrap .i64 (k+1))/\∀i,P' i->P i∨H.length<=i:=by
 obtain⟨h1,h2,sv,h3,h4⟩:=id hQ;unfold QqPushS;have e1:lload1 H (.ptr q 1)=some (.int .i64 k):=ld1 h3;have e2:lbld [(.int .i64 0),(.int .i64 0),(.int .i64 0)] [(0,1,.int .i64 key),(1,1,.int .i64 n),(2,1,.int .i64 k)]=some (.agg (It.mk key n k).c):=rfl;simp only[lchk_ptr,loff_ptr,ob_some,Nat.zero_add,e1,e2];refine Wp.call (hH P H q l k ⟨key,n,k⟩ hQ hb) ?_;rintro⟨v,H1⟩ ⟨_,g2,gt,P',g3,g4⟩;obtain⟨a1,a2,sv',a3,a4⟩:=id g3;have e3:lload1 H1 (.ptr q 1)=some (.int .i64 k):=ld1 a3;simp only[e3,ob_some,lbin_add];rw[st1 a3 (by simp only[one_int]) (by simp),ob_some];refine Wp.ret ⟨rfl,g2.tr (Frame.set _ _ h1),fun ht=>⟨sv',_,by rw[setAt a3];rfl,by obtain⟨sv2,k2,e,t⟩:=gt ht;rw[a3]at e;cases e;exact t⟩,P',⟨a1,fun i hi=>by simpa using a2 i hi,sv',?_,?_⟩,g4⟩
 ·rw[setAt a3];rfl
 ·exact a4.frame (Frame.set (F:=fun i=>i=q) H1 _ rfl) fun i hi e=>hi.2 e
def QNewOk (O:Oracle)(f:FuncId):Prop:=∀(H:Heap),Wp (O f [] H) fun r=>∃q,r.1=.ptr q 0/\H.length<=q/\Frame NoF H r.2/\QOk (fun i=>i=q) r.2 q [] 0
theorem qnew_s (H:Heap):Wp (queueNewS cal O N H) fun r=>∃q,r.1=.ptr q 0/\H.length<=q/\Frame NoF H r.2/\QOk (fun i=>i=q) r.2 q [] 0:=by
 unfold queueNewS;have e1:lbld [.nilSlice,(.int .i64 0)] []=some (.agg [.nilSlice,.int .i64 0]):=rfl;rw[e1,ob_some,lbox_agg rfl,ob_some];refine Wp.ret ⟨H.length,rfl,Nat.le_refl _,Frame.push _ _ _,rfl,fun i hi=>by subst hi;simp,.nilSlice,newRow,.inl ⟨rfl,rfl⟩⟩
def IPopOk (O:Oracle)(t:Nat)(f:FuncId):Prop:=∀(P:Nat->Prop) (H:Heap) (q:Nat) (l:List It) (k:Int) (x:It),QOk P H q (l++[x]) k->l.length<1000000->Wp (O f [.ptr q 0] H) fun r=>r.1=.iface t (.agg x.c)/\Frame P H r.2/\QOk P r.2 q l k/\∀b ex rest,QX H q b ex rest (l++[x]) k->QX r.2 q b ex (x::rest) l k
theorem ipop_s (hQ:QOk P H q (l++[x]) k)(hb:l.length<1000000):Wp (QisPopS cal O N (.ptr q 0) H) fun r=>r.1=.iface 198 (.agg x.c)/\Frame P H r.2/\QOk P r.2 q l k/\∀b ex rest,QX H q b ex rest (l++[x]) k->QX r.2 q b ex (x::rest) l k:=by
 obtain⟨h1,h2,sv,h3,h4⟩:=id hQ;unfold QisPopS;have e1:lload1 H (.ptr q 0)=some sv:=ld1 h3;have e2:lbin .sub (.int .i64 ((l++[x]).length:Nat)) (.int .i64 1)=some (.int .i64 (l.length:Nat)):=by rw[lbin_sub,wrap_i64 (by rw[List.length_append,List.length_singleton];omega) (by rw[List.length_append,List.length_singleton];omega)];simp
 obtain⟨r,rest,ex,rfl,c1,c2,c3,c4⟩:=h4.at (i:=l.length) (x:=x) (by simp);rw[lchk_ptr,ob_some,e1,ob_some,h4.len,ob_some,e2,ob_some,ob_some,e1,ob_some,c3,ob_some,c4,ob_some,lzbox_eq,ob_some];simp only[cells_agg];have k1:Frame NoF H (H++[IObj.row [(.int .i64 0),(.int .i64 0),(.int .i64 0)] false]):=Frame.push _ _ _;rw[stn (n:=3) newRow x.c_one rfl rfl,ob_some,setRow];simp only;have k2:Frame NoF H (H++[IObj.row x.c false]):=Frame.push _ _ _;have r2:(H++[IObj.row x.c false])[H.length]? =some (.row x.c false):=newRow;generalize H++[IObj.row x.c false]=K at *;have q2:=k2.get (fun h=>h) h3;have e3:lload1 K (.ptr q 0)=some _:=ld1 q2;rw[ob_some,e3,ob_some];have lq:=h2 q h1;have e4:lslice K (.slice 3) (.slice r 0 (l++[x]).length ((l++[x]).length+rest.length) ex 3) none (some (.int .i64 (l.length:Nat))) none=some (.slice r 0 l.length (l.length+(x::rest).length) ex 3):=by
  simp only[lslice,bnd];rw[if_pos (by omega)];simp only[Option.bind_some,Int.toNat_natCast];rw[if_neg (by simp),if_pos (by simp;omega)];simp;omega
 rw[e4,ob_some,ob_some,st1 q2 rfl (by simp),ob_some];have r3:(K.set q (.row ([.slice r 0 (l++[x]).length ((l++[x]).length+rest.length) ex 3,.int .i64 k].set 0 (.slice r 0 l.length (l.length+(x::rest).length) ex 3)) false))[H.length]? =some (.row x.c false):=by
  rw[List.getElem?_set_ne (by omega)];exact r2
 rw[ldn (n:=3) r3 rfl,ob_some,ob_some];refine Wp.ret ⟨rfl,k2.no.tr (Frame.set _ _ h1),⟨h1,fun i hi=>by have:=h2 i hi;have:=k2.1;simp;omega,_,setAt q2,.inr ⟨r,x::rest,ex,rfl,c1,?_⟩⟩,fun b ex' rest' hx=> ?_⟩
 ·rw[List.getElem?_set_ne (fun e=>c1.2 e.symm)];have:=k2.get (fun h=>h) c2;rw[this];simp
 ·have e1:=hx.hd;rw[h3]at e1;injection e1 with e1;injection e1 with e1 _;injection e1 with e1 _;injection e1 with e1 _ _ e2 e3 _
  subst e1 e3;have e4:=hx.row;rw[c2]at e4;injection e4 with e4;injection e4 with e4 _
  have:=List.append_cancel_left (itcs_inj e4);subst this;refine⟨setAt q2,?_,hx.ne⟩;rw[List.getElem?_set_ne (fun e=>hx.ne e.symm),k2.get (fun h=>h) hx.row];simp
def popL (l:List It):List It:=dnL (l.length+1) (iswp l 0 (l.length - 1)) 0 (l.length - 1)
theorem popL_length (l:List It):(popL l).length=l.length:=by unfold popL;rw[dnL_length,iswp_length]
theorem popL_split (h:l≠ []):∃x,popL l=(popL l).dropLast++[x]:=by
 have hne:popL l≠ []:=fun e=>h (List.length_eq_zero_iff.1 (by rw[←popL_length l,e];rfl));exact⟨(popL l).getLast hne,(List.dropLast_concat_getLast hne).symm⟩
def HPopOk (O:Oracle)(t t':Nat)(f:FuncId):Prop:=∀(P:Nat->Prop) (H:Heap) (q:Nat) (l:List It) (k:Int),QOk P H q l k->l≠ []->l.length<=1000000->Wp (O f [.iface t (.ptr q 0)] H) fun r=>Frame P H r.2/\∃x,popL l=(popL l).dropLast++[x]/\r.1=.iface t' (.agg x.c)/\QOk P r.2 q (popL l).dropLast k/\∀b ex rest,QX H q b ex rest l k->QX r.2 q b ex (x::rest) (popL l).dropLast k
theorem hpop_s {fd:FuncId}(hI:IPopOk O 198 206)(hL:ILenOk O 117)(hS:SwapOk O 204)(hD:DownOk O 196 fd)(hQ:QOk P H q l k)(hne:l≠ [])(hb:l.length<=1000000):Wp (cHpPopS cal O N fd (.iface 196 (.ptr q 0)) H) fun r=>Frame P H r.2/\∃x,popL l=(popL l).dropLast++[x]/\r.1=.iface 198 (.agg x.c)/\QOk P r.2 q (popL l).dropLast k/\∀b ex rest,QX H q b ex rest l k->QX r.2 q b ex (x::rest) (popL l).dropLast k:=by
 have hpos:0<l.length:=List.length_pos_iff.2 hne;unfold cHpPopS;rw[invLen (f:=117) rfl hL hQ,ob_some];have e1:lbin .sub (.int .i64 (l.length:Nat)) (.int .i64 1)=some (.int .i64 ((l.length - 1:Nat):Int)):=by rw[lbin_sub,wrap_i64 (by omega) (by omega)];congr 2;omega
 simp only;rw[e1,ob_some];refine Wp.call (invSwap (f:=204) (i:=0) rfl hS hQ hpos (show l.length - 1<l.length by omega)) ?_;rintro⟨v,H1⟩ ⟨_,g2,g3,_,g5⟩;simp only at g2 g3 g5 ⊢;refine Wp.call (hD P H1 q _ k 0 (l.length - 1) g2 (by rw[iswp_length];omega) (by rw[iswp_length];omega) (by rw[iswp_length];exact hb)) ?_;rintro⟨v,H2⟩ ⟨_,m2,m3,m5⟩;simp only at m2 m3 m5 ⊢;rw[iswp_length]at m2 m5;rw[linv0 (f:=206) rfl];obtain⟨x,hx⟩:=popL_split hne;have m4:QOk P H2 q ((popL l).dropLast++[x]) k:=by rw[←hx];exact m2
 refine Wp.call (hI P H2 q _ k x m4 (by rw[List.length_dropLast,popL_length];omega)) ?_;rintro⟨v,H3⟩ ⟨n1,n2,n3,n5⟩;simp only at n1 n2 n3 n5 ⊢;subst n1;exact Wp.ret ⟨(g3.tr m3).tr n2,x,hx,rfl,n3,fun b ex rest hq=>n5 b ex rest (by rw[←hx];exact m5 b ex rest (g5 b ex rest hq))⟩
def QLenOk (O:Oracle)(f:FuncId):Prop:=∀(P:Nat->Prop) (H:Heap) (q:Nat) (l:List It) (k:Int),QOk P H q l k->O f [.ptr q 0] H=some (.int .i64 (l.length:Nat),H)
theorem qlen_s {fl:FuncId}(hL:ILenOk O fl)(hQ:QOk P H q l k):QqLenS cal O N fl (.ptr q 0) H=some (.int .i64 (l.length:Nat),H):=by
 obtain⟨h1,h2,sv,h3,h4⟩:=id hQ;unfold QqLenS;have e1:lload1 H (.ptr q 0)=some sv:=ld1 h3;simp only[lchk_ptr,loff_ptr,ob_some,Nat.zero_add,e1,hL _ H sv l h4]
def QPopP (P:Nat->Prop)(H:Heap)(q:Nat)(l:List It)(k:Int)(r:Out):Prop :=
 Frame P H r.2/\((l=[]/\r.1=.tuple [.int .i64 0,.int .i64 0,.bool false]/\QOk P r.2 q l k)∨∃x,popL l=(popL l).dropLast++[x]/\r.1=.tuple [.int .i64 x.key,.int .i64 x.n,.bool true]/\QOk P r.2 q (popL l).dropLast k/\∀b ex rest,QX H q b ex rest l k->QX r.2 q b ex (x::rest) (popL l).dropLast k)
def QPopOk (O:Oracle)(f:FuncId):Prop:=∀(P:Nat->Prop) (H:Heap) (q:Nat) (l:List It) (k:Int),QOk P H q l k->l.length<=1000000->Wp (O f [.ptr q 0] H) (QPopP P H q l k)
theorem qpop_s {fl fh:FuncId}(hL:QLenOk O fl)(hH:HPopOk O 196 198 fh)(hQ:QOk P H q l k)(hb:l.length<=1000000):Wp (QqPopS cal O N fl fh (.ptr q 0) H) (QPopP P H q l k):=by
 unfold QqPopS;rw[hL P H q l k hQ,ob_some];simp only;rw[lbin_eql,ob_some];by_cases hne:l=[]
 ·subst hne;rw[decide_eq_true (by simp),cnd_true];exact Wp.ret ⟨Frame.refl _ _,.inl ⟨rfl,rfl,hQ⟩⟩
 ·have hpos:0<l.length:=List.length_pos_iff.2 hne;rw[decide_eq_false (by omega),cnd_false,lchk_ptr,ob_some,loff_ptr,ob_some,ob_some];refine Wp.call (hH P H q l k hQ hne hb) ?_;rintro⟨v,H1⟩ ⟨g1,x,g2,g3,g4,g5⟩;simp only at g1 g3 g4 g5 ⊢;subst g3;have e2:lasrt 198 (.agg [(.int .i64 0),(.int .i64 0),(.int .i64 0)]) false (.iface 198 (.agg x.c))=some (.agg x.c):=rfl;rw[e2,ob_some,lzbox_eq,ob_some];simp only[cells_agg];rw[stn (n:=3) newRow x.c_one rfl rfl,ob_some,setRow];simp only;have k2:Frame NoF H1 (H1++[IObj.row x.c false]):=Frame.push _ _ _;have r2:(H1++[IObj.row x.c false])[H1.length]? =some (.row x.c false):=newRow;have e3:lload1 (H1++[IObj.row x.c false]) (.ptr H1.length 0)=some (.int .i64 x.key):=ld1 r2;have e4:lload1 (H1++[IObj.row x.c false]) (.ptr H1.length 1)=some (.int .i64 x.n):=ld1 r2;simp only[loff_ptr,ob_some,Nat.zero_add,e3,e4];exact Wp.ret ⟨g1.tr k2.no,.inr ⟨x,g2,rfl,g4.frame k2 fun _ _ h=>h,fun b ex rest hq=>(g5 b ex rest hq).frame k2⟩⟩
end
end Go.Shade
namespace Go.Shade
def upQ (j:Nat):List It:=(List.range j).map fun i=>⟨(i:Nat)+2,(i:Nat)+2,(i:Nat)⟩
theorem upQ_length (j:Nat):(upQ j).length=j:=by simp[upQ]
theorem upQ_succ (j:Nat):upQ (j+1)=upQ j++[⟨(j:Nat)+2,(j:Nat)+2,(j:Nat)⟩]:=by simp[upQ,List.range_succ]
theorem upQ_get {j i:Nat}(h:i<j):(upQ j)[i]? =some ⟨(i:Nat)+2,(i:Nat)+2,(i:Nat)⟩:=by simp[upQ,h]
theorem upQ_push (j:Nat):upL (j+1) (upQ j++[⟨(j:Nat)+2,(j:Nat)+2,(j:Nat)⟩]) j=upQ (j+1):=by
 rw[←upQ_succ];unfold upL;split
 ·rfl
 ·rename_i h0;have ha:aheadAt (upQ (j+1)) j ((j - 1) / 2)=false:=by
   unfold aheadAt;rw[upQ_get (by omega),upQ_get (by omega)];simp only[ahead];rw[if_neg (by omega)];exact decide_eq_false (by omega)
  rw[ha];rfl
section
variable {cal : FuncId -> Bool} {O : Oracle} {N : Nat}
def SNewOk (O:Oracle)(f:FuncId):Prop:=∀(H:Heap) (room:Int),O f [.int .i64 room] H=if 0<=room/\room<=65536 then some (.ptr H.length 0,H++[.row [.int .i64 room,.int .i64 0] false])else some (.nilPtr,H)
theorem snew_s (H:Heap)(room:Int):blockNewS cal O N (.int .i64 room) H=if 0<=room/\room<=65536 then some (.ptr H.length 0,H++[.row [.int .i64 room,.int .i64 0] false])else some (.nilPtr,H):=by
 unfold blockNewS;rw[lbin_lss,ob_some];by_cases h1:room<0
 ·rw[decide_eq_true h1];simp only[isB_tf,gq_false,ob_some,lpick_true,cnd_true];rw[if_neg (by omega)]
 ·rw[decide_eq_false h1];simp only[isB_ff,gq_true,ob_some,lpick_false,lbin_gtr];by_cases h2:65536<room
  ·rw[decide_eq_true h2,cnd_true,if_neg (by omega)]
  ·rw[decide_eq_false h2,cnd_false,if_pos (by omega)];have e1:lbld [(.int .i64 0),(.int .i64 0)] [(0,1,(.int .i64 room))]=some (.agg [.int .i64 room,.int .i64 0]):=rfl;rw[e1,ob_some,lbox_agg rfl,ob_some]
def DNewOk (O:Oracle)(f:FuncId):Prop:=∀(H:Heap),O f [] H=some (.ptr H.length 0,H++[.row [.nilSlice] false])
theorem dnew_s (H:Heap):dentsNewS cal O N H=some (.ptr H.length 0,H++[.row [.nilSlice] false]):=by
 unfold dentsNewS;have e1:lbld [.nilSlice] []=some (.agg [.nilSlice]):=rfl;rw[e1,ob_some,lbox_agg rfl,ob_some]
def brC (s:IV)(cs:List IV)(q:IV):List IV:=s::(cs++[q])
def rootC (x:Nat):List IV:=.nilPtr:: .ptr x 0::List.replicate 199 .nilPtr
def nodC (d:Nat):List IV:=[.int .i64 2,.int .i64 1,.int .i64 0,.int .i64 0,.int .i64 1,.nilPtr,.ptr d 0,.str []]
structure NewBr (B:Nat)(K:Heap)(b:Nat)(room:Int):Prop where
 ex:∃s q d x P,K[b]? =some (.row (brC (.ptr s 0) (rootC x) (.ptr q 0)) false)/\K[s]? =some (.row [.int .i64 room,.int .i64 0] false)/\K[x]? =some (.row (nodC d) false)/\K[d]? =some (.row [.nilSlice] false)/\QOk P K q (upQ 199) 199/\TQ K q /\
  B<=s/\s<b/\B<=q/\s<q/\q<b/\b<d/\d<x/\∀i,P i->i=q∨(b<i/\i<d)
def BNewOk (O:Oracle)(f:FuncId):Prop:=∀(H:Heap) (room:Int),Wp (O f [.int .i64 room] H) fun r=>Frame NoF H r.2/\if 0<=room/\room<=65536 then ∃b,r.1=.ptr b 0/\NewBr H.length r.2 b room else r.1=.nilPtr
theorem bnew_go {fB fQ fP fD:FuncId}(hP:QPushOk O fP){gE0:IV->Heap->Option (IV×Heap)}{R:Out->Prop}{b q:Nat}{cs:List IV}{H0:Heap}{s:IV} (hb0:H0[b]? =some (.row (brC s cs (.ptr q 0)) false)) (hlen:cs.length=201) (hbq:q≠b)
  (hk:∀(P:Nat->Prop) (H:Heap),QOk P H q (upQ 199) 199->TQ H q->Frame (fun i=>i=q) H0 H->(∀i,P i->i=q∨H0.length<=i)->Wp (gE0 (.ptr b 0) H) R) :
  ∀(m j n:Nat) (P:Nat->Prop) (H:Heap),j+m=199->m<n->QOk P H q (upQ j) (j:Nat)->TQ H q->Frame (fun i=>i=q) H0 H->(∀i,P i->i=q∨H0.length<=i) ->
   Wp (branchNewC0S cal O N fB fQ fP fD gE0 n (.ptr b 0) (.int .i64 ((j+2:Nat):Int)) H) R:=by
 intro m
 induction m with
 | zero =>
  intro j n P H hj hn hQ hT hF hPl;obtain⟨n,rfl⟩:∃j,n=j+1:=⟨n - 1,by omega⟩;rw[branchNewC0S,lbin_leq,ob_some,decide_eq_false (by omega),cnd_false];obtain rfl:j=199:=by omega
  exact hk P H hQ hT hF hPl
 | succ m ih =>
  intro j n P H hj hn hQ hT hF hPl;obtain⟨n,rfl⟩:∃j,n=j+1:=⟨n - 1,by omega⟩;have e1:lload1 H (.ptr b 202)=some (.ptr q 0):=by
   rw[ld1 (hF.get (fun e=>hbq e.symm) hb0)];unfold brC;rw[List.getElem?_cons_succ,List.getElem?_append_right (by omega),hlen];rfl
  rw[branchNewC0S,lbin_leq,ob_some,decide_eq_true (by omega),cnd_true];simp only[lchk_ptr,loff_ptr,ob_some,Nat.zero_add,e1];refine Wp.call (hP P H q (upQ j) j _ _ hQ (by rw[upQ_length];omega)) ?_;rintro⟨v,H1⟩ ⟨_,g2,gt,P',g3,g4⟩;simp only at g2 g3 ⊢;rw[lbin_add,ob_some,wrap_i64 (by omega) (by omega)];rw[upQ_length,show((j+2:Nat):Int)=(j:Int)+2 by omega,upQ_push,wrap_i64 (by omega) (by omega)]at g3;have:=ih (j+1) n P' H1 (by omega) (by omega) (by rw[show((j+1:Nat):Int)=(j:Int)+1 by omega];exact g3) (gt hT) (hF.trans g2 fun i hi hp=>by rcases hPl i hp with h | h;exact h;omega) (fun i hi=>by
   rcases g4 i hi with h | h
   ·exact hPl i h
   ·exact .inr (Nat.le_trans hF.1 h))
  rw[show((j+1+2:Nat):Int)=((j+2:Nat):Int)+1 by omega]at this;exact this
theorem bnew_s {fB fQ fP fD:FuncId}(hN:200<=N)(hB:SNewOk O fB)(hQ:QNewOk O fQ)(hP:QPushOk O fP)(hD:DNewOk O fD)(H:Heap)(room:Int):Wp (branchNewS cal O N fB fQ fP fD (.int .i64 room) H) fun r=>Frame NoF H r.2/\if 0<=room/\room<=65536 then ∃b,r.1=.ptr b 0/\NewBr H.length r.2 b room else r.1=.nilPtr:=by
 unfold branchNewS branchNewC7S branchNewC6S branchNewC5S;rw[hB];by_cases h0:0<=room/\room<=65536
 ·rw[if_pos h0,ob_some];have e1:leqv false (leq .ptr (.ptr H.length 0) .nilPtr)=some (.bool false):=rfl;simp only;rw[e1,ob_some,cnd_false];unfold branchNewC4S;have k1:Frame NoF H (H++[IObj.row [.int .i64 room,.int .i64 0] false]):=Frame.push _ _ _;have r1:(H++[IObj.row [.int .i64 room,.int .i64 0] false])[H.length]? =some (.row [.int .i64 room,.int .i64 0] false):=newRow;generalize H++[IObj.row [.int .i64 room,.int .i64 0] false]=K at *;refine Wp.call (hQ K) ?_;rintro⟨v,K2⟩ ⟨q,rfl,hq,g1,g2⟩;simp only at g1 g2 ⊢;have l1:=(ges r1).1;refine Wp.of (a:=.agg (brC (.ptr H.length 0) (List.replicate 201 .nilPtr) (.ptr q 0))) (by kernel_rfl) ?_;have hb:lbox K2 (.agg (brC (.ptr H.length 0) (List.replicate 201 .nilPtr) (.ptr q 0)))=some (.ptr K2.length 0,K2++[IObj.row (brC (.ptr H.length 0) (List.replicate 201 .nilPtr) (.ptr q 0)) false]):=lbox_agg (by kernel_rfl);rw[hb,ob_some];simp only;have lq:=g2.2.1 q g2.1;have k3:Frame NoF K2 (K2++[IObj.row (brC (.ptr H.length 0) (List.replicate 201 .nilPtr) (.ptr q 0)) false]):=Frame.push _ _ _;have r3:(K2++[IObj.row (brC (.ptr H.length 0) (List.replicate 201 .nilPtr) (.ptr q 0)) false])[K2.length]? =some (.row (brC (.ptr H.length 0) (List.replicate 201 .nilPtr) (.ptr q 0)) false):=newRow;have l3:(K2++[IObj.row (brC (.ptr H.length 0) (List.replicate 201 .nilPtr) (.ptr q 0)) false]).length=K2.length+1:=by simp
  generalize K2++[IObj.row (brC (.ptr H.length 0) (List.replicate 201 .nilPtr) (.ptr q 0)) false]=K3 at *;have q3:QOk (fun i=>i=q) K3 q (upQ 0) ((0:Nat):Int):=g2.frame k3 fun _ _ h=>h;have kk:Frame NoF H K3:=(k1.tr g1).tr k3;have s3:=(g1.tr k3).get (fun h=>h) r1;unfold branchNewC3S branchNewC2S branchNewC1S;refine bnew_go hP (H0:=K3) r3 List.length_replicate (by omega) ?_ 199 0 N _ K3 (by omega) (by omega) q3 (by obtain⟨_,_,a,b,c⟩:=q3;exact⟨a,_,b,by cases c with | inl h=>exact .inl h.1 | inr h=>(obtain⟨r,rest,ex,e1,e2,e3⟩:=h;exact absurd e2.1 e2.2)⟩) (Frame.refl _ _) (fun i hi=>.inl hi);intro P K4 p1 pt p2 p3;have p1':=p1.2.1;have h4:=p2.1;have e2:=hD K4;simp only;rw[e2,ob_some];simp only;have k5:Frame NoF K4 (K4++[IObj.row [.nilSlice] false]):=Frame.push _ _ _;have r5:(K4++[IObj.row [.nilSlice] false])[K4.length]? =some (.row [.nilSlice] false):=newRow;have l5:(K4++[IObj.row [.nilSlice] false]).length=K4.length+1:=by simp
  generalize K4++[IObj.row [.nilSlice] false]=K5 at *;refine Wp.of (a:=.agg (nodC K4.length)) rfl ?_;have hb2:lbox K5 (.agg (nodC K4.length))=some (.ptr K5.length 0,K5++[IObj.row (nodC K4.length) false]):=lbox_agg rfl;rw[hb2,ob_some];simp only;have k6:Frame NoF K5 (K5++[IObj.row (nodC K4.length) false]):=Frame.push _ _ _;have r6:(K5++[IObj.row (nodC K4.length) false])[K5.length]? =some (.row (nodC K4.length) false):=newRow;have l6:(K5++[IObj.row (nodC K4.length) false]).length=K5.length+1:=by simp
  generalize K5++[IObj.row (nodC K4.length) false]=K6 at *;have b6:=(p2.tr (k5.tr k6).no).get (by omega) r3;simp only[lchk_ptr,loff_ptr,ob_some,Nat.zero_add];rw[lixa_ptr,if_pos (by omega),ob_some,st1 b6 (by simp only[one_ptr]) (by unfold brC;rw[List.length_cons,List.length_append,List.length_replicate];simp),ob_some];have kb:Frame (fun i=>i=K2.length) K6 (K6.set K2.length (.row ((brC (.ptr H.length 0) (List.replicate 201 .nilPtr) (.ptr q 0)).set (1+Int.toNat 1*1) (.ptr K5.length 0)) false)):=Frame.set _ _ rfl;refine Wp.ret ⟨((kk.trans (p2.tr (k5.tr k6).no) fun i hi e=>by omega)).setNew _ (by have:=k1.1;have:=g1.1;omega),?_⟩;rw[if_pos h0];refine⟨_,rfl,⟨H.length,q,K4.length,K5.length,P,?_,?_,?_,?_,?_,?_,by omega,by have:=g1.1;omega,by omega,by omega,by omega,by omega,by omega,fun i hi=> ?_⟩⟩
  ·rw[setAt b6];rfl
  ·exact kb.get (by have:=g1.1;omega) ((p2.tr (k5.tr k6).no).get (by omega) s3)
  ·exact kb.get (by omega) r6
  ·exact kb.get (by omega) (k6.get (fun h=>h) r5)
  ·exact(p1.frame (k5.tr k6) fun _ _ h=>h).frame kb fun i hi e=>by rcases p3 i hi with h | h<;>omega
  ·obtain⟨sv,k,e,t⟩:=pt;exact⟨sv,k,kb.get (by omega) ((k5.tr k6).get (fun h=>h) e),t⟩
  ·rcases p3 i hi with h | h
   ·exact .inl h
   ·exact .inr ⟨by omega,p1' i hi⟩
 ·rw[if_neg h0,ob_some];have e1:leqv false (leq .ptr .nilPtr .nilPtr)=some (.bool true):=rfl;simp only;rw[e1,ob_some,cnd_true];exact Wp.ret ⟨Frame.refl _ _,by rw[if_neg h0]⟩
end
end Go.Shade
namespace Go.Shade
def X4K0 :LC:=.seq (.seq (.reg [ qM 7 2,qM 8 3,qO 9 (.bin .lss (.t 7) (.t 8))]) (.cond (.t 9) .skip (.exit 0))) (.seq (.block 1 (.drw [ qM 14 0,qM 15 2,qM 16 0,qM 17 3,qM 18 0,qM 19 3,qO 20 (.ix 2 (.t 18) (.t 19)),qO 21 (.ldn 2 (.t 20)),qM 22 0,qM 23 2,qO 24 (.ix 2 (.t 22) (.t 23)),qO 25 (.ldn 2 (.t 24)),qO 26 (.ix 2 (.t 14) (.t 15)),⟨none,(.st 2 (.t 26) (.t 21)),none⟩,qO 27 (.ix 2 (.t 16) (.t 17)),⟨none,(.st 2 (.t 27) (.t 25)),none⟩] [])) (.reg [ qM 10 2,qO 11 (.bin .add (.t 10) (k6 1)),qM 12 3,qO 13 (.bin .sub (.t 12) (k6 1)),qM 2 11,qM 3 13]))
def sRevC0 :LC:=.loop X4K0
def sRevC1 :LC:=.block 0 sRevC0
def X4K1 :LC:=.reg [ qM 4 0,qO 5 (.len .slice (.t 4)),qO 6 (.bin .sub (.t 5) (k6 1)),qO 2 (.mv (k6 0)),qM 3 6]
def sRevC2 :LC:=.seq X4K1 sRevC1
def sRevC0S (cal:CB)(O:Oracle)(N:Nat)(gE0:Heap->OH):Nat->IV->IV->IV->Heap->OH
 | 0,_,_,_,_=>none
 | n+1,v0,v2,v3,H =>ob (lbin .lss v2 v3) fun t1 =>cnd t1
  (ob (lix 2 v0 v3) fun t2 =>ob (lloadn H 2 t2) fun t3 =>ob (lix 2 v0 v2) fun t4 =>ob (lloadn H 2 t4) fun t5 =>ob (lix 2 v0 v2) fun t6 =>ob (lstV H 2 t6 t3) fun r7 =>ob (lix 2 v0 v3) fun t8 =>ob (lstV r7.2 2 t8 t5) fun r9 =>ob (lbin .add v2 (.int .i64 1)) fun t10 =>ob (lbin .sub v3 (.int .i64 1)) fun t11 =>
   sRevC0S cal O N gE0 n v0 t10 t11 r9.2)
  (gE0 H)
theorem sRevC0Eq (cal:CB)(O:Oracle)(N:Nat){k:KT (IV×Heap)}(gE0:Heap->OH)(hgE0:∀E H,k (.exit 0) E H=gE0 H):∀(n:Nat) (E:Sg) (H:Heap),itK (lxK cal O N X4K0) n E H k=sRevC0S cal O N gE0 n (lk E 0) (lk E 2) (lk E 3) H:=by
 have hk:k=(kE 0 (fun E H=>gE0 H) k):=(kE_mk hgE0 rfl);intro n
 induction n with
 | zero=>intro E H;rfl
 | succ n ih =>
  intro E H;rw[itK_succ,seqK_mk (g:=fun E H=>sRevC0S cal O N gE0 n (lk E 0) (lk E 2) (lk E 3) H) ih,hk];kernel_rfl
def sRevC1S (cal:CB)(O:Oracle)(N:Nat)(gN:Heap->OH)(v0 v2 v3:IV)(H:Heap):OH :=
  sRevC0S cal O N (fun H=>gN H) N v0 v2 v3 H
theorem sRevC1Eq (cal:CB)(O:Oracle)(N:Nat){k:KT (IV×Heap)}(gN:Heap->OH)(hgN:∀E H,k .normal E H=gN H):∀(E:Sg) (H:Heap),lxK cal O N sRevC1 E H k=sRevC1S cal O N gN (lk E 0) (lk E 2) (lk E 3) H:=by
 have hk:k=(kN (fun E H=>gN H) k):=(kN_mk hgN rfl);intro E H;rw[hk];show lxK cal O N sRevC0 E H (blockK 0 (kN (fun E H=>gN H) k))=_;exact sRevC0Eq cal O N (k:=(blockK 0 (kN (fun E H=>gN H) k))) gN (fun _ _=>rfl) N E H
def sRevC2S (cal:CB)(O:Oracle)(N:Nat)(gN:Heap->OH)(v0:IV)(H:Heap):OH :=
 ob (llen H .slice v0) fun t1 =>ob (lbin .sub t1 (.int .i64 1)) fun t2 =>
  sRevC1S cal O N (fun H=>gN H) v0 (.int .i64 0) t2 H
theorem sRevC2Eq (cal:CB)(O:Oracle)(N:Nat){k:KT (IV×Heap)}(gN:Heap->OH)(hgN:∀E H,k .normal E H=gN H):∀(E:Sg) (H:Heap),lxK cal O N sRevC2 E H k=sRevC2S cal O N gN (lk E 0) H:=by
 have hk:k=(kN (fun E H=>gN H) k):=(kN_mk hgN rfl);intro E H;rw[hk];show lxK cal O N X4K1 E H (seqK (lxK cal O N sRevC1) (kN (fun E H=>gN H) k))=_;rw[seqK_mk (g:=fun E H=>sRevC1S cal O N gN (lk E 0) (lk E 2) (lk E 3) H) (sRevC1Eq cal O N (k:=(kN (fun E H=>gN H) k)) gN (fun _ _=>rfl))];kernel_rfl
def sRev :LFun:=⟨sRevC2,[],28⟩
def sRevS (cal:CB)(O:Oracle)(N:Nat)(v0:IV)(H:Heap):OH :=
  sRevC2S cal O N (fun H=>some ((.tuple []),H)) v0 H
theorem sRevEq (cal:CB)(O:Oracle)(N:Nat)(v0:IV)(H:Heap):lrunK cal O N (sRev) [v0] H=sRevS cal O N v0 H:=by
 show lxK cal O N sRevC2 (initFrom 0 [v0]) H (endK [])=_;exact sRevC2Eq cal O N (k:=(endK [])) (fun H=>some ((.tuple []),H)) (fun _ _=>rfl) (initFrom 0 [v0]) H
def sRolS (cal:CB)(O:Oracle)(N:Nat)(f0:FuncId)(v0 v1:IV)(H:Heap):OH :=
 ob (lslice H (.slice 2) v0 none (some v1) none) fun t1 =>ob (O f0 [t1] H) fun r2 =>ob (lslice r2.2 (.slice 2) v0 (some v1) none none) fun t3 =>ob (O f0 [t3] r2.2) fun r4 =>ob (O f0 [v0] r4.2) fun r5 =>some ((.tuple []),r5.2)
def sRorS (cal:CB)(O:Oracle)(N:Nat)(f0:FuncId)(v0 v1:IV)(H:Heap):OH :=
 ob (llen H .slice v0) fun t1 =>ob (lbin .sub t1 v1) fun t2 =>ob (O f0 [v0,t2] H) fun r3 =>some ((.tuple []),r3.2)
end Go.Shade
namespace Go.Shade
open Go.RowKit
abbrev Ent :=IV×IV×Nat
def ientb (a b:Ent):Bool:=ivb a.1 b.1&&(ivb a.2.1 b.2.1&&Nat.beq a.2.2 b.2.2)
def ientsb :List Ent->List Ent->Bool
 | [],[]=>true
 | a::l,b::k=>ientb a b&&ientsb l k
 | _,_=>false
def iob :IObj->IObj->Bool
 | .row cs ro,.row ds so=>ivbs cs ds&&(ro==so)
 | .map es c,.map fs d=>ientsb es fs&&Nat.beq c d
 | .iter r s e a,.iter r' s' e' a'=>(r==r')&&(Nat.beq s s'&&((e==e')&&Nat.beq a a'))
 | .dead,.dead=>true
 | _,_=>false
def hpb :Heap->Heap->Bool
 | [],[]=>true
 | a::l,b::k=>iob a b&&hpb l k
 | _,_=>false
theorem ientb_eq {a b:Ent}(h:ientb a b=true):a=b:=by
 obtain⟨a1,a2,a3⟩:=a;obtain⟨b1,b2,b3⟩:=b;simp only[ientb,Bool.and_eq_true]at h;rw[ivb_eq _ _ h.1,ivb_eq _ _ h.2.1,Nat.eq_of_beq_eq_true h.2.2]
theorem ientsb_eq :∀{l k:List Ent},ientsb l k=true->l=k
 | [],[],_=>rfl
 | a::l,b::k,h=>by
  simp only[ientsb,Bool.and_eq_true]at h;rw[ientb_eq h.1,ientsb_eq h.2]
 | [],_::_,h=>by simp[ientsb]at h
 | _::_,[],h=>by simp[ientsb]at h
theorem iob_eq {a b:IObj}(h:iob a b=true):a=b:=by
 cases a<;>cases b<;>simp only[iob]at h<;>first
  | (cases h;done)
  | rfl
  | (simp only[Bool.and_eq_true,beq_iff_eq]at h;rw[ivbs_eq _ _ h.1,h.2];done)
  | (simp only[Bool.and_eq_true]at h;rw[ientsb_eq h.1,Nat.eq_of_beq_eq_true h.2];done)
  | (simp only[Bool.and_eq_true,beq_iff_eq]at h;obtain⟨h1,h2,h3,h4⟩:=h;rw[h1,Nat.eq_of_beq_eq_true h2,h3,Nat.eq_of_beq_eq_true h4])
theorem hpb_eq :∀{l k:Heap},hpb l k=true->l=k
 | [],[],_=>rfl
 | a::l,b::k,h=>by
  simp only[hpb,Bool.and_eq_true]at h;rw[iob_eq h.1,hpb_eq h.2]
 | [],_::_,h=>by simp[hpb]at h
 | _::_,[],h=>by simp[hpb]at h
def zipO :IObj->IObj->List (IV×IV)
 | .row cs _,.row ds _=>cs.zip ds
 | .map es _,.map fs _=>(es.map (·.1)).zip (fs.map (·.1))++(es.map (·.2.1)).zip (fs.map (·.2.1))
 | _,_=>[]
def mtV (h0:Nat)(H1 H2:Heap):Nat->List (IV×IV)->List (Nat×Nat)->List (Nat×Nat)
 | 0,_,M=>M
 | _,[],M=>M
 | n+1,(v1,v2)::W,M =>
  let visit:=fun(b b':Nat)=>bif Nat.blt b h0 then mtV h0 H1 H2 n W M else bif M.any (fun p=>Nat.beq p.1 b)then mtV h0 H1 H2 n W M else
   mtV h0 H1 H2 n (zipO (H1.getD b .dead) (H2.getD b' .dead)++W) ((b,b')::M)
  match v1,v2 with
  | .ptr b _,.ptr b' _=>visit b b'
  | .slice b _ _ _ _ _,.slice b' _ _ _ _ _=>visit b b'
  | .map b,.map b'=>visit b b'
  | .func _ x y,.func _ x' y'=>mtV h0 H1 H2 n (x.zip x'++(y.zip y'++W)) M
  | .iface _ x,.iface _ x'=>mtV h0 H1 H2 n ((x,x')::W) M
  | .agg x,.agg x'=>mtV h0 H1 H2 n (x.zip x'++W) M
  | .tuple x,.tuple x'=>mtV h0 H1 H2 n (x.zip x'++W) M
  | _,_=>mtV h0 H1 H2 n W M
def findM :List (Nat×Nat)->Nat->Nat
 | [],i=>i
 | p::M,i=>bif Nat.beq p.1 i then p.2 else findM M i
def isoF (h0:Nat)(M:List (Nat×Nat))(i:Nat):Nat:=bif Nat.blt i h0 then i else findM M i
def oldZ :Nat->Heap->Heap->List (IV×IV)
 | n+1,a::H1,b::H2=>bif iob a b then oldZ n H1 H2 else zipO a b++oldZ n H1 H2
 | _,_,_=>[]
def isoM (h0:Nat)(σ1:Sg)(H1:Heap)(σ2:Sg)(H2:Heap):List (Nat×Nat) :=
 let M:=mtV h0 H1 H2 1000000 ((σ1.map fun p=>(lk σ1 p.1,lk σ2 p.1))++oldZ h0 H1 H2) []
 let N:=List.range' h0 (H1.length - h0)
 M++(N.filter fun i=> !M.any fun p=>Nat.beq p.1 i).zip (N.filter fun i=> !M.any fun p=>Nat.beq p.2 i)
def nodupB :List Nat->Bool
 | []=>true
 | x::l=>(l.all fun y=> !Nat.beq x y)&&nodupB l
def injOk (h0 n:Nat)(f:Nat->Nat):Bool:=nodupB ((List.range' h0 (n - h0)).map f)&&(List.range' h0 (n - h0)).all fun i=>Nat.ble h0 (f i)
def isoH (f:Nat->Nat)(n:Nat)(H2:Heap):Nat->Heap->Bool
 | _,[]=>true
 | i,o::l=>inBO n o&&((match H2[f i]? with
   | some p=>iob p (renO f o)
   | none=>false)&&isoH f n H2 (i+1) l)
def isoS (f:Nat->Nat)(n:Nat)(σ1 σ2:Sg):Sg->Bool
 | []=>true
 | p::l=>inB n (lk σ1 p.1)&&(ivb (lk σ2 p.1) (ren f (lk σ1 p.1))&&isoS f n σ1 σ2 l)
def isoG (h0:Nat)(f:Nat->Nat)(σ1:Sg)(H1:Heap)(σ2:Sg)(H2:Heap):Bool :=
 Nat.ble h0 H1.length&&(injOk h0 H1.length f&&(isoH f H1.length H2 0 H1&&(isoS f H1.length σ1 σ2 σ1&&isoS f H1.length σ1 σ2 σ2)))
def isoSt (h0:Nat)(σ1:Sg)(H1:Heap)(σ2:Sg)(H2:Heap):Bool:=isoG h0 (isoF h0 (isoM h0 σ1 H1 σ2 H2)) σ1 H1 σ2 H2
theorem isoF_lt {h0 i:Nat}{M:List (Nat×Nat)}(h:i<h0):isoF h0 M i=i:=by
 unfold isoF;have:Nat.blt i h0=true:=Nat.ble_eq_true_of_le h;rw[this];rfl
theorem nodupB_nodup :∀{l:List Nat},nodupB l=true->l.Nodup
 | [],_=>List.nodup_nil
 | x::l,h=>by
  simp only[nodupB,Bool.and_eq_true,List.all_eq_true,Bool.not_eq_true']at h;rw[List.nodup_cons];exact⟨fun hx=>(by have:=h.1 x hx;rw[Nat.beq_refl]at this;cases this),nodupB_nodup h.2⟩
theorem nodup_map_inj {f:Nat->Nat}:∀{l:List Nat},(l.map f).Nodup->∀i∈l,∀j∈l,i≠j->f i≠f j
 | [],_,i,hi,_,_,_=>by cases hi
 | x::l,h,i,hi,j,hj,hne=>by
  rw[List.map_cons,List.nodup_cons]at h;rcases List.mem_cons.1 hi with ei | hi'
  ·rcases List.mem_cons.1 hj with ej | hj'
   ·exact absurd (ei.trans ej.symm) hne
   ·exact fun e=>h.1 (List.mem_map.2 ⟨j,hj',by rw[←e,ei]⟩)
  ·rcases List.mem_cons.1 hj with ej | hj'
   ·exact fun e=>h.1 (List.mem_map.2 ⟨i,hi',by rw[e,ej]⟩)
   ·exact nodup_map_inj h.2 i hi' j hj' hne
theorem isoF_inj {h0 n:Nat}{M:List (Nat×Nat)}(h:injOk h0 n (isoF h0 M)=true)(i j:Nat)(hi:i<n)(hj:j<n)(hne:i≠j):isoF h0 M i≠isoF h0 M j:=by
 simp only[injOk,Bool.and_eq_true,List.all_eq_true]at h;have hm:∀k,k<n->h0<=k->k∈List.range' h0 (n - h0):=fun k hk h0k=>List.mem_range'_1.2 ⟨h0k,by omega⟩;by_cases a:i<h0
 ·rw[isoF_lt a];by_cases b:j<h0
  ·rw[isoF_lt b];exact hne
  ·have:=nble (h.2 j (hm j hj (by omega)));omega
 ·by_cases b:j<h0
  ·rw[isoF_lt b];have:=nble (h.2 i (hm i hi (by omega)));omega
  ·exact nodup_map_inj (nodupB_nodup h.1) i (hm i hi (by omega)) j (hm j hj (by omega)) hne
theorem isoH_get {f:Nat->Nat}{n:Nat}{H2:Heap}:∀{l:Heap} {k:Nat},isoH f n H2 k l=true->∀(i:Nat) o,l[i]? =some o->inBO n o=true/\H2[f (k+i)]? =some (renO f o)
 | [],k,h,i,o,hi=>by simp at hi
 | x::l,k,h,i,o,hi=>by
  simp only[isoH,Bool.and_eq_true]at h;obtain⟨h1,h2,h3⟩:=h
  cases i with
  | zero =>
   simp at hi;subst hi;refine⟨h1,?_⟩;split at h2
   ·rename_i p hp;rw[Nat.add_zero,hp,iob_eq h2]
   ·cases h2
  | succ i =>
   have:=isoH_get h3 i o (by simpa using hi)
   rwa [show k+1+i=k+(i+1) by omega]at this
theorem isoS_get {f:Nat->Nat}{n:Nat}{σ1 σ2:Sg}:∀{l:Sg},isoS f n σ1 σ2 l=true->∀p∈l,inB n (lk σ1 p.1)=true/\lk σ2 p.1=ren f (lk σ1 p.1)
 | [],h,p,hp=>by cases hp
 | q::l,h,p,hp=>by
  simp only[isoS,Bool.and_eq_true]at h;rcases List.mem_cons.1 hp with rfl | hp
  ·exact⟨h.1,ivb_eq _ _ h.2.1⟩
  ·exact isoS_get h.2.2 p hp
theorem lk_or :∀(E:Sg) (t:Nat),lk E t=.tuple []∨∃p∈E,p.1=t
 | [],t=>.inl rfl
 | (s,v)::r,t=>by
  by_cases h:s=t
  ·exact .inr ⟨(s,v),List.mem_cons_self ..,h⟩
  ·rcases lk_or r t with e | ⟨p,h1,h2⟩
   ·left;simp only[lk];rw[if_neg (by simpa using h)];exact e
   ·exact .inr ⟨p,List.mem_cons_of_mem _ h1,h2⟩
theorem iso_lk {f:Nat->Nat}{n:Nat}{σ1 σ2:Sg}(h1:isoS f n σ1 σ2 σ1=true)(h2:isoS f n σ1 σ2 σ2=true)(t:Nat):inB n (lk σ1 t)=true/\lk σ2 t=ren f (lk σ1 t):=by
 rcases lk_or σ1 t with e1 | ⟨p,hp,rfl⟩
 ·rcases lk_or σ2 t with e2 | ⟨p,hp,rfl⟩
  ·rw[e1,e2];exact⟨rfl,rfl⟩
  ·exact isoS_get h2 p hp
 ·exact isoS_get h1 p hp
theorem inBs_map {n:Nat}{α:Type}{g:α->IV}:∀{l:List α},(∀x∈l,inB n (g x)=true)->inBs n (l.map g)=true
 | [],_=>rfl
 | x::l,h=>by
  simp only[List.map_cons,inBs,Bool.and_eq_true];exact⟨h x (List.mem_cons_self ..),inBs_map fun y hy=>h y (List.mem_cons_of_mem _ hy)⟩
theorem rens_map {f:Nat->Nat}{α:Type}{g:α->IV}:∀{l:List α},rens f (l.map g)=l.map fun x=>ren f (g x)
 | []=>rfl
 | x::l=>by simp only[List.map_cons,rens,rens_map (l:=l)]
theorem iso_rel {h0:Nat}{σ1 σ2:Sg}{H1 H2:Heap}(h:isoSt h0 σ1 H1 σ2 H2=true){B0 n:Nat}{w0 w:World}{m m2:Mp}{a:Act}(hd:∀i l,m i=some l->i<h0)(hx:Ext m m2)(hR:Rel B0 w0 m2 H2 w)(hT:TR m2 (rep n σ2) a) :
  ∃m1,Ext m m1/\Rel B0 w0 m1 H1 w/\TR m1 (rep n σ1) a:=by
 unfold isoSt at h;generalize isoM h0 σ1 H1 σ2 H2=M at h;simp only[isoG,Bool.and_eq_true]at h;obtain⟨k0,kj,k1,k2,k3⟩:=h;have k0:=nble k0;refine⟨sub H1.length (isoF h0 M) m2,fun i l hi=> ?_,hR.gc _ (fun i o hi=> ?_) (isoF_inj kj),?_,hT.2⟩
 ·have hlt:=hd i l hi;simp only[sub,if_pos (Nat.lt_of_lt_of_le hlt k0),isoF_lt hlt];exact hx i l hi
 ·have:=isoH_get k1 i o hi
  rwa [Nat.zero_add]at this
 ·have e:rep n σ2=rens (isoF h0 M) (rep n σ1):=by
   unfold rep;rw[rens_map];exact List.map_congr_left fun t _=>(iso_lk k2 k3 t).2
  refine VRs_ren _ _ (inBs_map fun t _=>(iso_lk k2 k3 t).1) ?_;rw[←e];exact hT.1
def altRep (cal:FuncId->Bool)(O:Oracle):LC->Sg->Heap->Option (Sg×Heap)
 | .drw l ps,E,H=>ldraw cal O l ps E H
 | .alt a b,E,H=>match altRep cal O a E H,altRep cal O b E H with
  | some r1,some r2=>bif isoSt H.length r1.1 r1.2 r2.1 r2.2 then some r1 else none
  | _,_=>none
 | _,_,_=>none
end Go.Shade
namespace Go.Shade
open Go.RowKit
variable {B0 n : Nat} {H : Heap} {P : Program} {c i l x : LArg} {m : Mp} {t : TypeId} {w w0 : World}
def nxtC (es:List Ent)(since:Nat)(seen:List Nat)(last:Nat):Option (List (Option Ent)) :=
 if(!seen.isEmpty&&(!es.isEmpty&&es.all fun e=>Nat.ble last e.2.2))=true then none else
 some ((if(es.filter fun e=> !seen.contains e.2.2&& !Nat.ble since e.2.2).isEmpty then [none]else []) ++
  ((es.filter fun e=> !seen.contains e.2.2&& !Nat.ble since e.2.2)++(es.filter fun e=> !seen.contains e.2.2&&Nat.ble since e.2.2)).map some)
def nxtO (H:Heap)(i r since:Nat)(seen:List Nat)(clock:Nat):Option Ent->IV×Heap
 | none=>(.tuple [.bool false],H)
 | some e=>(.tuple [.bool true,e.1,e.2.1],H.set i (.iter (some r) since (seen++[e.2.2]) clock))
def stNxt (H:Heap)(x:IV):Option (List (IV×Heap)) :=
 match x with
 | .ptr i 0=>match H[i]? with
  | some (.iter none _ _ _)=>some [(.tuple [.bool false],H)]
  | some (.iter (some r) since seen last)=>match H[r]? with
   | some (.map es clock)=>(nxtC es since seen last).bind fun cs=>some (cs.map (nxtO H i r since seen clock))
   | _=>none
  | _=>none
 | _=>none
def stRng (H:Heap)(x:IV):Option (IV×Heap) :=
 match x with
 | .nilMap=>some (.ptr H.length 0,H++[.iter none 0 [] 0])
 | .map r=>match H[r]? with
  | some (.map _ clock)=>some (.ptr H.length 0,H++[.iter (some r) clock [] clock])
  | _=>none
 | _=>none
theorem run_choose {α:Type}(n:Nat)(hn:0<n)(k:Nat->Sem α):∃c w',c<n/\w'.heap=w.heap/\w'.os=w.os/\w'.tape=w.tape/\w'.output=w.output/\((choose (.mapNext n)).bind k).run P w=(k c).run P w':=by
 have e:((choose (.mapNext n)).bind k)=Sem.choose (.mapNext n) fun c=>k c:=rfl;rw[e];simp only[Sem.run];split
 ·exact⟨0,w,hn,rfl,rfl,rfl,rfl,rfl⟩
 ·refine⟨_,{ w with drawn:=w.drawn+1 },?_,rfl,rfl,rfl,rfl,rfl⟩;exact Nat.mod_lt _ hn
inductive L2 {α β:Type}(R:α->β->Prop):List α->List β->Prop
 | nil:L2 R [] []
 | cons {a b as' bs}:R a b->L2 R as' bs->L2 R (a::as') (b::bs)
section
variable {α β : Type} {R : α -> β -> Prop}
theorem L2.of :∀{l:List α} {k:List β},l.length=k.length->(∀(j:Nat) x,l[j]? =some x->∃y,k[j]? =some y/\R x y)->L2 R l k
 | [],[],_,_=>.nil
 | a::l,b::k,h,g=>by
  obtain⟨y,h1,h2⟩:=g 0 a rfl;simp at h1;subst h1;exact .cons h2 (L2.of (by simpa using h) fun j x hj=>by simpa using g (j+1) x (by simpa using hj))
 | [],_::_,h,_=>by simp at h
 | _::_,[],h,_=>by simp at h
theorem L2.append {l l':List α}{k k':List β}(h:L2 R l k)(g:L2 R l' k'):L2 R (l++l') (k++k'):=by
 induction h with
 | nil=>exact g
 | cons a _ ih=>exact .cons a ih
theorem L2.filter {p:α->Bool}{q:β->Bool}(hpq:∀a b,R a b->p a=q b){l:List α}{k:List β}(h:L2 R l k):L2 R (l.filter p) (k.filter q):=by
 induction h with
 | nil=>exact .nil
 | @cons a b _ _ r _ ih =>
  rw[List.filter_cons,List.filter_cons,hpq a b r];split
  ·exact .cons r ih
  ·exact ih
theorem L2.empty {l:List α}{k:List β}(h:L2 R l k):l.isEmpty=k.isEmpty:=by cases h<;>rfl
theorem L2.all {p:α->Bool}{q:β->Bool}(hpq:∀a b,R a b->p a=q b){l:List α}{k:List β}(h:L2 R l k):l.all p=k.all q:=by
 induction h with
 | nil=>rfl
 | @cons a b _ _ r _ ih=>rw[List.all_cons,List.all_cons,hpq a b r,ih]
theorem L2.length {l:List α}{k:List β}(h:L2 R l k):l.length=k.length:=by
 induction h with
 | nil=>rfl
 | cons _ _ ih=>simp[ih]
theorem L2.get {l:List α}{k:List β}(h:L2 R l k):∀{i:Nat} {y:β},k[i]? =some y->∃x,l[i]? =some x/\R x y:=by
 induction h with
 | nil=>intro i y hy;simp at hy
 | @cons a b _ _ r _ ih =>
  intro i y hy
  cases i with
  | zero=>simp at hy;subst hy;exact⟨a,rfl,r⟩
  | succ i=>simpa using ih (by simpa using hy)
theorem L2.map {γ δ:Type}{S:γ->δ->Prop}{f:α->γ}{g:β->δ}(hfg:∀a b,R a b->S (f a) (g b)){l:List α}{k:List β}(h:L2 R l k):L2 S (l.map f) (k.map g):=by
 induction h with
 | nil=>exact .nil
 | cons r _ ih=>exact .cons (hfg _ _ r) ih
end
def ORel (m:Mp):Option Ent->Option MapEntry->Prop
 | none,y=>y=none
 | some x,y=>∃e,y=some e/\ERel m x e
theorem ble_ge {a b:Nat}:Nat.ble a b=decide (b ≥ a):=by rw[Bool.eq_iff_iff,Nat.ble_eq];simp
theorem ble_lt {a b:Nat}:(!Nat.ble a b)=decide (b<a):=by rw[ble_ge,←decide_not];congr 1;simp
theorem Rel.putIter {B0:Nat}{w0 w:World}{m:Mp}{H:Heap}(h:Rel B0 w0 m H w){i r since last since2 last2:Nat}{seen seen2:List Nat}(hr:H[i]? =some (.iter (some r) since seen last)){l lk:Loc}(hl:m i=some l)(hlk:m r=some lk) :
  Rel B0 w0 m (H.set i (.iter (some r) since2 seen2 last2)) { w with heap:=w.heap.setIfInBounds l.cb (.mapIter (some lk.cb) since2 seen2.toArray last2) }:=by
 obtain⟨l',r',g1,g0,g2,g3,g4⟩:=h.good i _ hr;rw[hl]at g1;cases g1
 have hlt:l.cb<w.heap.size:=(Array.getElem?_eq_some_iff.1 g2).1;have far:∀k,k≠l.cb->({ w with heap:=w.heap.setIfInBounds l.cb (.mapIter (some lk.cb) since2 seen2.toArray last2) }:World).heap[k]? =w.heap[k]? :=by
  intro k hk;simp[Array.getElem?_setIfInBounds,Ne.symm hk]
 have held_of:∀{a:Nat} {p:IObj},(H.set i (IObj.iter (some r) since2 seen2 last2))[a]? =some p->∃p',H[a]? =some p'/\(p.held=true->p'.held=true):=by
  intro a p ha;rw[List.getElem?_set]at ha;by_cases e:i=a
  ·subst e;exact⟨_,hr,fun _=>rfl⟩
  ·rw[if_neg e]at ha;exact⟨p,ha,id⟩
 refine⟨⟨h.below.os,h.below.tape,h.below.output,by simpa using h.below.size,fun k hk=> ?_⟩,by simpa using h.base,fun k q hq=>by simpa using h.dom k q hq,fun k q hk=> ?_,fun a b p q la lb ha hb hp hq hne hma hmb=> ?_⟩
 ·rw[far k (by omega)];exact h.below.block k hk
 ·rw[List.getElem?_set]at hk;by_cases e:i=k
  ·subst e;have hrl:i<H.length:=(ges hr).1;simp[hrl]at hk;subst hk;exact⟨l,some lk.cb,hl,g0,by simp[hlt],g3,.inr ⟨r,lk,rfl,hlk,rfl⟩⟩
  ·rw[if_neg e]at hk;have hgk:=h.good k q hk;by_cases hd:q.held=true
   ·exact hgk.move (Ext.refl _) (fun lk hlk _=>far _ (h.inj k i q _ lk l hk hr hd rfl (Ne.symm e) hlk hl))
   ·cases q with
    | dead=>trivial
    | map es c=>simp[IObj.held]at hd
    | iter r s e a=>simp[IObj.held]at hd
    | row cs' ro =>
     cases ro with
     | false=>simp[IObj.held]at hd
     | true =>
      exact hgk.ro_move (Ext.refl _) (fun lk hlk hlt' _=>far _ (by omega))
 ·obtain⟨p',ha',hp'⟩:=held_of ha;obtain⟨q',hb',hq'⟩:=held_of hb;exact h.inj a b p' q' la lb ha' hb' (hp' hp) (hq' hq) hne hma hmb
theorem run_next (h:Rel B0 w0 m H w){x:IV}{v:Value}(hx:VR m x v){outs:List (IV×Heap)}(e:stNxt H x=some outs)(t:TypeId) :
  ∃r w' u,r∈outs/\(Instr.next v false t).run P w=.ok u w'/\Rel B0 w0 m r.2 w'/\VR m r.1 u:=by
 unfold stNxt at e;split at e
 ·rename_i i;simp only[VR]at hx;obtain⟨l,hl,rfl⟩:=hx;split at e
  ·rename_i since seen last hi
   cases e
   obtain⟨l',r',g1,g0,g2,g3,g4⟩:=h.good i _ hi;rw[hl]at g1;cases g1
   have:r'=none:=by
    rcases g4 with⟨_,g⟩ | ⟨k,lk,g,_⟩
    ·exact g
    ·cases g
   subst this;have hg:(getObj l.cb).run P w=.ok (.mapIter none since seen.toArray last) w:=by simp[getObj,Sem.run,g2]
   refine⟨_,w,.tuple #[.bool false],List.mem_singleton.2 rfl,?_,h,by simp only[VR];exact⟨_,rfl,VRs.cons (VR_bool m _) (VRs.nil m)⟩⟩;simp only[Instr.next,g0,Nat.zero_add,Nat.add_zero,Sem.run_bind,hg,Result.andThen_ok];rfl
  ·rename_i r since seen last hi;split at e
   ·rename_i es clock hr;obtain⟨l',r',g1,g0,g2,g3,g4⟩:=h.good i _ hi;rw[hl]at g1;cases g1
    obtain⟨lk,hlk,rfl⟩:∃lk,m r=some lk/\r'=some lk.cb:=by
     rcases g4 with⟨g,_⟩ | ⟨k,lk,g,h1,h2⟩
     ·cases g
     ·cases g;exact⟨lk,h1,h2⟩
    obtain⟨lr,es',k1,k2,k3,k4,k5⟩:=h.good r _ hr;rw[hlk]at k1;cases k1
    have hrel:L2 (ERel m) es es'.toList:=L2.of (by simpa using k4) (fun j x hj=>by simpa using k5 j x hj);have hg1:(getObj l.cb).run P w=.ok (.mapIter (some lk.cb) since seen.toArray last) w:=by simp[getObj,Sem.run,g2]
    have hg2:(getObj lk.cb).run P w=.ok (.map es' clock) w:=by simp[getObj,Sem.run,k2]
    obtain⟨cs,hcs,e⟩:=obs e
    cases e
    unfold nxtC at hcs;split at hcs
    ·cases hcs
    ·rename_i hno
     cases hcs
     generalize hA:(if((es'.filter fun e=> !seen.toArray.contains e.born).filter fun e=>decide (e.born<since)).isEmpty=true then #[none]else #[]) ++
      (((es'.filter fun e=> !seen.toArray.contains e.born).filter fun e=>decide (e.born<since))++((es'.filter fun e=> !seen.toArray.contains e.born).filter fun e=>decide (e.born ≥ since))).map some=A
     have e1:∀(a:Ent) (b:MapEntry),ERel m a b->(!seen.contains a.2.2&& !Nat.ble since a.2.2)=(decide (b.born<since)&& !seen.toArray.contains b.born):=by
      rintro a b ⟨_,_,hb⟩;rw[hb,Bool.and_comm]
      congr 1
      ·rw[ble_lt]
      ·simp
     have e2:∀(a:Ent) (b:MapEntry),ERel m a b->(!seen.contains a.2.2&&Nat.ble since a.2.2)=(decide (b.born ≥ since)&& !seen.toArray.contains b.born):=by
      rintro a b ⟨_,_,hb⟩;rw[hb,Bool.and_comm]
      congr 1
      ·rw[ble_ge]
      ·simp
     have hold:=L2.filter e1 hrel;have hnew:=L2.filter e2 hrel;have hAl:L2 (ORel m) ((if(es.filter fun e=> !seen.contains e.2.2&& !Nat.ble since e.2.2).isEmpty then [none]else []) ++
       ((es.filter fun e=> !seen.contains e.2.2&& !Nat.ble since e.2.2)++(es.filter fun e=> !seen.contains e.2.2&&Nat.ble since e.2.2)).map some) A.toList:=by
      rw[←hA];simp only[Array.toList_append,Array.toList_map,Array.toList_filter,List.filter_filter];refine L2.append ?_ (L2.map (fun a b hab=>⟨b,rfl,hab⟩) (L2.append hold hnew));have he:((es'.filter fun e=> !seen.toArray.contains e.born).filter fun e=>decide (e.born<since)).isEmpty=(es.filter fun e=> !seen.contains e.2.2&& !Nat.ble since e.2.2).isEmpty:=by
       rw[hold.empty,←Array.isEmpty_toList];simp only[Array.toList_filter,List.filter_filter]
      rw[he];split
      ·exact .cons rfl .nil
      ·exact .nil
     have hpos:0<A.size:=by
      rw[←Array.length_toList,←hAl.length]
      cases hz:(es.filter fun e=> !seen.contains e.2.2&& !Nat.ble since e.2.2)with
      | nil=>simp
      | cons a l=>simp
     have hno':¬((!seen.toArray.isEmpty&& !es'.isEmpty&&es'.all fun x=>decide (x.born ≥ last))=true):=by
      intro hh;apply hno;rw[←Bool.and_assoc,hrel.empty,L2.all (q:=fun b:MapEntry=>decide (b.born ≥ last)) (fun a b ⟨_,_,hb⟩=>by rw[hb,Bool.eq_iff_iff];simp) hrel]
      simpa using hh
     obtain⟨c,w1,hc,o1,o2,o3,o4,hrun⟩:=run_choose (P:=P) (w:=w) A.size hpos (fun n=>match A[n]? with
      | some (some e)=>(setObj l.cb (.mapIter (some lk.cb) since (seen.toArray.push e.born) clock)).bind fun _=>Sem.pure (Value.tuple #[.bool true,e.key,e.val])
      | some none=>Sem.pure (Value.tuple #[.bool false])
      | none=>stuck "Next: no such candidate")
     have hR1:Rel B0 w0 m H w1:=h.same o1 o2 o3 o4;have hAc:A.toList[c]? =some A[c]:=by simp[hc]
     obtain⟨o,ho,hrel2⟩:=hAl.get hAc;have start:(Instr.next (.pointer (some ⟨l.cb,l.co+0,none⟩)) false t).run P w=((choose (.mapNext A.size)).bind (fun n=>match A[n]? with
      | some (some e)=>(setObj l.cb (.mapIter (some lk.cb) since (seen.toArray.push e.born) clock)).bind fun _=>Sem.pure (Value.tuple #[.bool true,e.key,e.val])
      | some none=>Sem.pure (Value.tuple #[.bool false])
      | none=>stuck "Next: no such candidate")).run P w:=by
      simp only[Instr.next,g0,Nat.zero_add,Nat.add_zero,Sem.run_bind,hg1,hg2,Result.andThen_ok];rw[if_neg hno',hA];rfl
     cases o with
     | none =>
      simp only[ORel]at hrel2;refine⟨_,w1,.tuple #[.bool false],List.mem_map.2 ⟨none,List.mem_of_getElem? ho,rfl⟩,?_,hR1,by simp only[nxtO,VR];exact⟨_,rfl,VRs.cons (VR_bool m _) (VRs.nil m)⟩⟩;rw[start,hrun];simp only[Array.getElem?_eq_getElem hc,hrel2];rfl
     | some en =>
      obtain⟨me,hme,r1,r2,r3⟩:=hrel2;have hset:(setObj l.cb (.mapIter (some lk.cb) since (seen.toArray.push me.born) clock)).run P w1=.ok () { w1 with heap:=w1.heap.setIfInBounds l.cb (.mapIter (some lk.cb) since (seen.toArray.push me.born) clock) }:=by
       simp[setObj,Sem.run,o1,g2]
      refine⟨_,{ w1 with heap:=w1.heap.setIfInBounds l.cb (.mapIter (some lk.cb) since (seen++[en.2.2]).toArray clock) },.tuple #[.bool true,me.key,me.val],List.mem_map.2 ⟨some en,List.mem_of_getElem? ho,rfl⟩,?_,?_,by simp only[nxtO,VR];exact⟨_,rfl,VRs.cons (VR_bool m _) (VRs.cons r1 (VRs.cons r2 (VRs.nil m)))⟩⟩
      ·rw[start,hrun];simp only[Array.getElem?_eq_getElem hc,hme];have hpush:(seen++[en.2.2]).toArray=seen.toArray.push me.born:=by rw[r3];simp
       rw[hpush];have hb:∀(f:Unit->Sem Value),((setObj l.cb (.mapIter (some lk.cb) since (seen.toArray.push me.born) clock)).bind f)=((setObj l.cb (.mapIter (some lk.cb) since (seen.toArray.push me.born) clock)) >>= f):=fun f=>rfl;rw[hb,Sem.run_bind,hset,Result.andThen_ok];rfl
      ·exact hR1.putIter hi hl hlk
   ·cases e
  ·cases e
 ·cases e
theorem run_range (h:Rel B0 w0 m H w){x:IV}{v:Value}(hx:VR m x v){k el:TypeId}(ht:P.underlying t=some (.map k el)){r:IV×Heap}(e:stRng H x=some r) :
  ∃m' w' u,(Instr.range t v).run P w=.ok u w'/\Ext m m'/\Rel B0 w0 m' r.2 w'/\VR m' r.1 u:=by
 have new:∀(o:Obj),(newObj o).run P w=.ok w.heap.size (w.alloc o):=fun o=>rfl;unfold stRng at e;split at e
 ·cases e
  simp only[VR]at hx;subst hx;have hR:=h.push (.iter none 0 [] 0) (.mapIter none 0 #[] 0) 0 ⟨⟨w.heap.size,0,0⟩,none,by simp[grow],rfl,Array.getElem?_push_size,h.base,.inl ⟨rfl,rfl⟩⟩;refine⟨_,_,.pointer (some ⟨w.heap.size,0,none⟩),?_,grow_ext h _,hR,by simp only[VR];exact⟨_,grow_at _ _ _,rfl⟩⟩;simp only[Instr.range,Sem.run_bind,run_underlying ht,Result.andThen_ok,Sem.run_pure,new]
 ·rename_i r;split at e
  ·rename_i es clock hr
   cases e
   simp only[VR]at hx;obtain⟨l,hl,rfl⟩:=hx;obtain⟨lr,es',k1,k2,k3,k4,k5⟩:=h.good r _ hr;rw[hl]at k1;cases k1
   have hg2:(getObj l.cb).run P w=.ok (.map es' clock) w:=by simp[getObj,Sem.run,k2]
   have hext:=grow_ext h ⟨w.heap.size,0,0⟩;have hR:=h.push (.iter (some r) clock [] clock) (.mapIter (some l.cb) clock #[] clock) 0 ⟨⟨w.heap.size,0,0⟩,some l.cb,by simp[grow],rfl,Array.getElem?_push_size,h.base,.inr ⟨r,l,rfl,hext _ _ hl,rfl⟩⟩;refine⟨_,_,.pointer (some ⟨w.heap.size,0,none⟩),?_,hext,hR,by simp only[VR];exact⟨_,grow_at _ _ _,rfl⟩⟩;simp only[Instr.range,Sem.run_bind,run_underlying ht,Result.andThen_ok,Sem.run_pure,new,hg2]
  ·cases e
 ·cases e
def isSp :LOp->Bool
 | .rng _ | .nxt _ | .ovl .. =>true
 | _=>false
def OkS (o:Option LOp):Prop:=∀lo,o=some lo->isSp lo=false
theorem OkS.none :OkS none:=fun _ h=>by cases h
theorem OkS.some {lo:LOp}(h:isSp lo=false):OkS (some lo):=fun _ e=>by cases e;exact h
theorem OkS.bind {α:Type}{a:Option α}{f:α->Option LOp}(h:∀x,OkS (f x)):OkS (a.bind f):=fun lo e=>by
 obtain⟨x,_,e⟩:=obs e;exact h x lo e
theorem OkS.map {α:Type}{a:Option α}{f:α->LOp}(h:∀x,isSp (f x)=false):OkS (a.map f):=fun lo e=>by
 obtain⟨x,_,rfl⟩:=Option.map_eq_some_iff.1 e;exact h x
section
variable {P : Program}
theorem sp_conv {s d:TypeId}:OkS (lowConv P s d x):=by
 unfold lowConv;repeat' (first | exact OkS.none | exact OkS.some rfl | refine OkS.bind fun _=> ?_ | exact OkS.map fun _=>rfl | split)
theorem sp_bin {op:BinOp}{y:LArg}:OkS (lowBin P op t x y):=by
 unfold lowBin;repeat' (first | exact OkS.none | exact OkS.some rfl | refine OkS.bind fun _=> ?_ | exact OkS.map fun _=>rfl | split)
theorem sp_field {f:Nat}:OkS (lowField P t f x):=by
 unfold lowField;repeat' (first | exact OkS.none | exact OkS.some rfl | refine OkS.bind fun _=> ?_ | exact OkS.map fun _=>rfl | split)
theorem sp_fieldAddr {f:Nat}:OkS (lowFieldAddr P t f x):=by
 unfold lowFieldAddr;repeat' (first | exact OkS.none | exact OkS.some rfl | refine OkS.bind fun _=> ?_ | exact OkS.map fun _=>rfl | split)
theorem sp_indexAddr :OkS (lowIndexAddr P t x i):=by
 unfold lowIndexAddr;repeat' (first | exact OkS.none | exact OkS.some rfl | refine OkS.bind fun _=> ?_ | exact OkS.map fun _=>rfl | split)
theorem sp_index :OkS (lowIndex P t x i):=by
 unfold lowIndex;repeat' (first | exact OkS.none | exact OkS.some rfl | refine OkS.bind fun _=> ?_ | exact OkS.map fun _=>rfl | split)
theorem sp_lookup {ok:Bool}:OkS (lowLookup P t ok x i):=by
 unfold lowLookup;repeat' (first | exact OkS.none | exact OkS.some rfl | refine OkS.bind fun _=> ?_ | exact OkS.map fun _=>rfl | split)
theorem sp_assert {ok:Bool}:OkS (lowAssert P t ok x):=by
 unfold lowAssert;repeat' (first | exact OkS.none | exact OkS.some rfl | refine OkS.bind fun _=> ?_ | exact OkS.map fun _=>rfl | split)
theorem sp_build {l:List (Nat×Operand)}:OkS (lowBuild P t l):=by
 unfold lowBuild;repeat' (first | exact OkS.none | exact OkS.some rfl | refine OkS.bind fun _=> ?_ | exact OkS.map fun _=>rfl | split)
theorem sp_buildSlice {l:List (Nat×Operand)}:OkS (lowBuildSlice P t n l):=by
 unfold lowBuildSlice;repeat' (first | exact OkS.none | exact OkS.some rfl | refine OkS.bind fun _=> ?_ | exact OkS.map fun _=>rfl | split)
theorem sp_makeSlice :OkS (lowMakeSlice P t l c):=by
 unfold lowMakeSlice;repeat' (first | exact OkS.none | exact OkS.some rfl | refine OkS.bind fun _=> ?_ | exact OkS.map fun _=>rfl | split)
theorem sp_app {u:TypeId}:OkS (lowApp P t u l c):=by
 unfold lowApp;repeat' (first | exact OkS.none | exact OkS.some rfl | refine OkS.bind fun _=> ?_ | exact OkS.map fun _=>rfl | split)
theorem sp_copy :OkS (lowCopy P t l c):=by
 unfold lowCopy;repeat' (first | exact OkS.none | exact OkS.some rfl | refine OkS.bind fun _=> ?_ | exact OkS.map fun _=>rfl | split)
theorem sp_clear :OkS (lowClear P t l):=by
 unfold lowClear;repeat' (first | exact OkS.none | exact OkS.some rfl | refine OkS.bind fun _=> ?_ | exact OkS.map fun _=>rfl | split)
theorem sp_upd {d k:LArg}:OkS (lowUpd P t d k x):=by
 unfold lowUpd;repeat' (first | exact OkS.none | exact OkS.some rfl | refine OkS.bind fun _=> ?_ | exact OkS.map fun _=>rfl | split)
theorem sp_del {d k:LArg}:OkS (lowDel P t d k):=by
 unfold lowDel;repeat' (first | exact OkS.none | exact OkS.some rfl | refine OkS.bind fun _=> ?_ | exact OkS.map fun _=>rfl | split)
theorem sp_box :OkS (lowBox P x):=OkS.some rfl
theorem sp_alloc :OkS (lowAlloc P t):=by
 unfold lowAlloc;repeat' (first | exact OkS.none | exact OkS.some rfl | refine OkS.bind fun _=> ?_ | exact OkS.map fun _=>rfl | split)
theorem low_sp0 {op:Op}(h1:∀t y,op≠ .range t y)(h2:∀y b,op≠ .next y b)(h3:∀f args ts,op≠ .call { callee:=.value f,args:=args,argTypes:=ts }):OkS (lowOp P op):=by
 unfold lowOp;split
 all_goals first
  | exact absurd rfl (h1 _ _)
  | exact absurd rfl (h2 _ _)
  | exact absurd rfl (h3 _ _ _)
  | exact OkS.none
  | exact OkS.some rfl
  | exact OkS.map fun _=>rfl
  | exact OkS.bind fun _=>OkS.map fun _=>rfl
  | exact OkS.bind fun _=>OkS.bind fun _=>OkS.map fun _=>rfl
  | exact OkS.bind fun _=>OkS.bind fun _=>OkS.bind fun _=>OkS.bind fun _=>OkS.map fun _=>rfl
  | exact sp_build
  | exact sp_buildSlice
  | exact sp_alloc
  | exact OkS.bind fun _=>sp_conv
  | exact OkS.bind fun _=>OkS.bind fun _=>sp_bin
  | exact OkS.bind fun _=>sp_field
  | exact OkS.bind fun _=>sp_fieldAddr
  | exact OkS.bind fun _=>OkS.bind fun _=>sp_indexAddr
  | exact OkS.bind fun _=>OkS.bind fun _=>sp_index
  | exact OkS.bind fun _=>OkS.bind fun _=>sp_lookup
  | exact OkS.bind fun _=>sp_assert
  | exact OkS.bind fun _=>OkS.bind fun _=>sp_makeSlice
  | exact OkS.bind fun _=>OkS.bind fun _=>sp_app
  | exact OkS.bind fun _=>OkS.bind fun _=>sp_copy
  | exact OkS.bind fun _=>sp_clear
  | exact OkS.bind fun _=>OkS.bind fun _=>OkS.bind fun _=>sp_upd
  | exact OkS.bind fun _=>OkS.bind fun _=>sp_del
  | exact OkS.bind fun _=>sp_box
  | exact OkS.bind fun _=>OkS.map fun _=>rfl
  | (refine OkS.bind fun _=> ?_;split<;>first | exact OkS.none | exact OkS.some rfl | exact OkS.map fun _=>rfl)
  | (refine OkS.bind fun _=>OkS.bind fun _=> ?_;split<;>first | exact OkS.none | exact OkS.some rfl | exact OkS.map fun _=>rfl | (split<;>first | exact OkS.none | exact OkS.some rfl | exact OkS.map fun _=>rfl))
theorem low_sp {op:Op}:OkS (lowOp P op)∨(∃t y k el,op=.range t y/\P.underlying t=some (.map k el)/\lowOp P op=(lowA y).map .rng)∨(∃y,op=.next y false/\lowOp P op=(lowA y).map .nxt)∨(∃f args ts g x y,op=.call { callee:=.value f,args:=args,argTypes:=ts }/\lowA f=some (.f g)/\lowAs args.toList=some [x,y]/\ovlFn P g=true/\lowOp P op=some (.ovl x y)):=by
 by_cases h1:∃t y,op=.range t y
 ·obtain⟨t,x,rfl⟩:=h1;have he:lowOp P (.range t x)=(lowA x).bind fun x=>match P.underlying t with
   | some (.map ..)=>some (.rng x)
   | _=>none:=rfl
  rw[he]
  cases hu:P.underlying t with
  | none=>exact .inl (OkS.bind fun _=>OkS.none)
  | some d =>
   cases d with
   | map k el =>
    refine .inr (.inl ⟨t,x,k,el,rfl,hu,?_⟩)
    cases lowA x<;>rfl
   | _=>exact .inl (OkS.bind fun _=>OkS.none)
 ·by_cases h2:∃y b,op=.next y b
  ·obtain⟨y,b,rfl⟩:=h2
   cases b with
   | true=>exact .inl OkS.none
   | false=>exact .inr (.inr (.inl ⟨y,rfl,rfl⟩))
  ·by_cases h3:∃f args ts,op=.call { callee:=.value f,args:=args,argTypes:=ts }
   ·obtain⟨f,args,ts,rfl⟩:=h3;have he:lowOp P (.call { callee:=.value f,args:=args,argTypes:=ts })=(lowAs args.toList).bind fun as'=>(lowA f).bind fun y=>match y with
     | .f g=>if callable P g then some (.callF g as')else match xkind P g with
      | some k=>some (.xt k as')
      | none=>match as' with
       | [x,y]=>if ovlFn P g then some (.ovl x y)else none
       | _=>none
     | y=>some (.callV y as'):=rfl
    rw[he]
    cases hla:lowAs args.toList with
    | none=>exact .inl OkS.none
    | some as' =>
     cases hlf:lowA f with
     | none=>exact .inl OkS.none
     | some y =>
      cases y with
      | t n=>exact .inl (OkS.some rfl)
      | k v=>exact .inl (OkS.some rfl)
      | f g =>
       simp only[Option.bind_some];split
       ·exact .inl (OkS.some rfl)
       ·split
        ·exact .inl (OkS.some rfl)
        ·split
         ·split
          ·rename_i x y hov;exact .inr (.inr (.inr ⟨f,args,ts,g,x,y,rfl,hlf,hla,hov,rfl⟩))
          ·exact .inl OkS.none
         ·exact .inl OkS.none
   ·exact .inl (low_sp0 (fun t y e=>h1 ⟨t,y,e⟩) (fun y b e=>h2 ⟨y,b,e⟩) (fun f args ts e=>h3 ⟨f,args,ts,e⟩))
end
def lopW (cal:FuncId->Bool)(O:Oracle)(p:LO)(E:Sg)(H:Heap):Option (List (IV×Heap)) :=
 match p.op with
 | .rng x=>if lwanted p E then(stRng H (la E x)).bind fun r=>some [r]else some [(.tuple [],H)]
 | .nxt x=>if lwanted p E then stNxt H (la E x)else some [(.tuple [],H)]
 | .ovl x y=>if lwanted p E then stOvl H (la E x) (la E y)else some [(.tuple [],H)]
 | _=>(lopV cal O p E H).bind fun r=>some [r]
def lopsW (cal:FuncId->Bool)(O:Oracle):List LO->Sg->Heap->(Sg->Heap->Prop)->Prop
 | [],E,H,k=>k E H
 | p::ps,E,H,k=>∃l,lopW cal O p E H=some l/\∀r∈l,lopsW cal O ps (pput E p.d r.1) r.2 k
def itW (body:Sg->Heap->(IX->Sg->Heap->Prop)->Prop):Nat->Sg->Heap->(IX->Sg->Heap->Prop)->Prop
 | 0,_,_,_=>False
 | n+1,E,H,k=>body E H fun x E H=>match x with
  | .normal=>itW body n E H k
  | x=>k x E H
def lxW (cal:FuncId->Bool)(O:Oracle)(n:Nat):LC->Sg->Heap->(IX->Sg->Heap->Prop)->Prop
 | .skip,E,H,k=>k .normal E H
 | .reg l,E,H,k=>lopsW cal O l E H (k .normal)
 | .drw l ps,E,H,k=>∃r,ldraw cal O l ps E H=some r/\k .normal r.1 r.2
 | .seq a b,E,H,k=>lxW cal O n a E H fun x E H=>match x with
  | .normal=>lxW cal O n b E H k
  | x=>k x E H
 | .cond c a b,E,H,k=>match la E c with
  | .bool true=>lxW cal O n a E H k
  | .bool false=>lxW cal O n b E H k
  | _=>False
 | .block id a,E,H,k=>lxW cal O n a E H fun x E H=>match x with
  | .exit id'=>if id'=id then k .normal E H else k (.exit id') E H
  | x=>k x E H
 | .loop a,E,H,k=>itW (lxW cal O n a) n E H k
 | .exit id,E,H,k=>k (.exit id) E H
 | .ret,E,H,k=>k .ret E H
 | .bad,_,_,_=>False
 | .alt a b,E,H,k=>(lxW cal O n a E H k/\lxW cal O n b E H k)∨∃r:Sg×Heap,altRep cal O (.alt a b) E H=some r/\k .normal r.1 r.2
section
variable {P : Program} {cal : FuncId -> Bool} {O : Oracle} (hφ : Sound P O) (hcal : ∀ g, cal g = true -> callable P g = true)
include hφ hcal
theorem wp_lopW {ops:Array Oper}{i:Nat}{o:Oper}(hi:ops[i]? =some o){p:POp}(hp:pOper n ops o=some p){E:Sg}{l:List (IV×Heap)}(e:lopW cal O (lowP P p) E H=some l){a:Act}(hR:Rel B0 w0 m H w)(hT:TR m (rep n E) a){Q:Exit->Act->World->Prop}{K:Act->World->Prop}(hK:∀r∈l,∀m' w' u,Ext m m'->Rel B0 w0 m' r.2 w'->VR m' r.1 u->K (a.put o.dst u) w'):wpOp P ops Q i K a w:=by
 obtain⟨r1,r2,r3,r4,r5,r6⟩:=rep_opV (P:=P) (O:=O) hp E H;have unwanted:pwanted p E=false->(∀r,r=(IV.tuple [],H)->r∈l)->wpOp P ops Q i K a w:=by
  intro hw hl;unfold wpOp;rw[hi];simp only;rw[wanted_eq hT,r6,hw];exact hK _ (hl _ rfl) m w undef (Ext.refl m) hR (VR_unit m)
 have hop:(lowP P p).op=(lowOp P p.op).getD .bad:=rfl;have usual:isSp (lowP P p).op=false->wpOp P ops Q i K a w:=by
  intro hs;have:lopW cal O (lowP P p) E H=(lopV cal O (lowP P p) E H).bind fun r=>some [r]:=by
   unfold lopW;split
   ·rename_i h;rw[h]at hs;cases hs
   ·rename_i h;rw[h]at hs;cases hs
   ·rename_i h;rw[h]at hs;cases hs
   ·rfl
  rw[this]at e;obtain⟨r,hr,e⟩:=obs e
  cases e
  have hp':=lowP_opV (O:=O) hcal p E H r hr;rw[←r1]at hp';exact wp_iop hφ hi hp' hR hT (fun m' w' u h1 h2 h3=>hK r (List.mem_singleton.2 rfl) m' w' u h1 h2 h3)
 rcases low_sp (P:=P) (op:=p.op)with hs | ⟨t,y,k,el,hy,hu,hl⟩ | ⟨y,hy,hl⟩ | ⟨f,args,ts,g,x,y,hy,hlf,hla,hov,hl⟩
 ·apply usual;rw[hop]
  cases hl:lowOp P p.op with
  | none=>rfl
  | some lo=>exact hs lo hl
 ·cases hla:lowA y with
  | none=>apply usual;rw[hop,hl,hla];rfl
  | some x =>
   have hx:(lowP P p).op=.rng x:=by rw[hop,hl,hla];rfl
   have hw':lwanted (lowP P p) E=pwanted p E:=rfl;unfold lopW at e;rw[hx]at e;simp only[hw']at e
   cases hpw:pwanted p E with
   | false =>
    rw[hpw]at e;simp only[Bool.false_eq_true,if_false]at e
    cases e
    exact unwanted hpw (fun r h=>by subst h;simp)
   | true =>
    rw[hpw]at e;simp only[if_true]at e;obtain⟨r,hr,e⟩:=obs e
    cases e
    unfold wpOp;rw[hi];simp only;rw[wanted_eq hT,r6,hpw,if_pos rfl];left;have hy':o.op=.range t y:=by rw[←r3,hy]
    have hev:=hT.env y (la E x) (by rw[rep_env (r5 y (by rw[hy'];simp[Op.operands])) E];exact lowA_env hla E);obtain⟨m',w',u,g1,g2,g3,g4⟩:=run_range (P:=P) hR hev hu hr;unfold Oper.wp;have hex:(execOp a.eval o).run P w=.ok (.value u) w':=by
     unfold execOp;rw[hy'];simp only[Sem.run_bind,g1,Result.andThen_ok];rfl
    rw[hex];exact hK r (List.mem_singleton.2 rfl) m' w' u g2 g3 g4
 ·cases hla:lowA y with
  | none=>apply usual;rw[hop,hl,hla];rfl
  | some x =>
   have hx:(lowP P p).op=.nxt x:=by rw[hop,hl,hla];rfl
   have hw':lwanted (lowP P p) E=pwanted p E:=rfl;unfold lopW at e;rw[hx]at e;simp only[hw']at e
   cases hpw:pwanted p E with
   | false =>
    rw[hpw]at e;simp only[Bool.false_eq_true,if_false]at e
    cases e
    exact unwanted hpw (fun r h=>by subst h;simp)
   | true =>
    rw[hpw]at e;simp only[if_true]at e;unfold wpOp;rw[hi];simp only;rw[wanted_eq hT,r6,hpw,if_pos rfl];left;have hy':o.op=.next y false:=by rw[←r3,hy]
    have hev:=hT.env y (la E x) (by rw[rep_env (r5 y (by rw[hy'];simp[Op.operands])) E];exact lowA_env hla E);obtain⟨r,w',u,g0,g1,g3,g4⟩:=run_next (P:=P) hR hev e o.type;unfold Oper.wp;have hex:(execOp a.eval o).run P w=.ok (.value u) w':=by
     unfold execOp;rw[hy'];simp only[Sem.run_bind,g1,Result.andThen_ok];rfl
    rw[hex];exact hK r g0 m w' u (Ext.refl m) g3 g4
 ·have hx:(lowP P p).op=.ovl x y:=by rw[hop,hl];rfl
  have hw':lwanted (lowP P p) E=pwanted p E:=rfl;unfold lopW at e;rw[hx]at e;simp only[hw']at e
  cases hpw:pwanted p E with
  | false =>
   rw[hpw]at e;simp only[Bool.false_eq_true,if_false]at e
   cases e
   exact unwanted hpw (fun r h=>by subst h;simp)
  | true =>
   rw[hpw]at e;simp only[if_true]at e;unfold wpOp;rw[hi];simp only;rw[wanted_eq hT,r6,hpw,if_pos rfl];left;have hy':o.op=.call { callee:=.value f,args:=args,argTypes:=ts }:=by rw[←r3,hy]
   have hfv:=hT.env f (la E (.f g)) (by rw[rep_env (r5 f (by rw[hy'];simp[Op.operands,Call.operands])) E];exact lowA_env hlf E);simp only[la,VR]at hfv;obtain⟨fa,ca,hfv,hfa,hca⟩:=hfv;have hfa:fa= #[]:=Array.ext' (by simpa[VRs]using hfa);have hca:ca= #[]:=Array.ext' (by simpa[VRs]using hca);subst hfa hca;have hargs:VRs m [la E x,la E y] (args.map a.eval).toList:=by
    rw[Array.toList_map];refine evs_VRs hT.env ?_;rw[evs_congr (ρ':=penv E) (fun z hz=>rep_env (r5 z (by rw[hy'];simp[Op.operands,Call.operands,Array.mem_toList_iff.1 hz])) E)];exact lowAs_env hla E
   obtain⟨r,w',u,g0,g1,g3,g4⟩:=run_ovl (P:=P) hR hov hargs e;unfold Oper.wp;have hex:(execOp a.eval o).run P w=.ok (.value u) w':=by
    unfold execOp;rw[hy'];simp only[resolve,hfv,Deferred.ofValue,Sem.run_bind,Sem.run_pure,Result.andThen_ok,invoke];have he: #[]++args.map a.eval++ #[]=args.map a.eval:=by simp
    first
     | exact g1
     | (rw[he];exact g1)
   rw[hex];exact hK r g0 m w' u (Ext.refl m) g3 g4
theorem wp_lopsW {ops:Array Oper}{n:Nat}{Q:Exit->Act->World->Prop}{B0:Nat}{w0:World}{K:Sg->Heap->Prop}:∀(os:List Oper) (ps:List POp) (k:Nat) (E:Sg) (H:Heap) (w:World) (m:Mp) (a:Act),
  (∀j,os[j]? =ops[k+j]?)->pOpers n ops os=some ps->lopsW cal O (ps.map (lowP P)) E H K->Rel B0 w0 m H w->TR m (rep n E) a ->
  (∀σ' H',K σ' H'->∀m' a' w',Ext m m'->Rel B0 w0 m' H' w'->TR m' (rep n σ') a'->Q .normal a' w')->wpOps P ops Q (List.range' k os.length) a w
 | [],ps,k,E,H,w,m,a,_,hps,e,hR,hT,hQ=>by
  simp only[pOpers,Option.some.injEq]at hps;subst hps;exact hQ E H e m a w (Ext.refl m) hR hT
 | o::os,ps,k,E,H,w,m,a,hk,hps,e,hR,hT,hQ=>by
  simp only[pOpers]at hps;obtain⟨p,hp,hps⟩:=obs hps;obtain⟨ps',hps',hps⟩:=obs hps
  cases hps
  simp only[List.map_cons,lopsW]at e;obtain⟨l,h1,e⟩:=e;have h0:ops[k]? =some o:=by have:=hk 0;simpa using this.symm
  obtain⟨_,r2,r3,r4,r5,r6⟩:=rep_opV (P:=P) (O:=O) hp E H;rw[List.length_cons,List.range'_succ,wpOps_cons];refine wp_lopW hφ hcal h0 hp h1 hR hT (fun r hr m1 w1 u hm hR1 hv=> ?_);have hT1:TR m1 (rep n (pput E p.d r.1)) (a.put o.dst u):=by
   rw[r2,←rep_put r4];exact(hT.ext hm).put _ hv
  exact wp_lopsW os ps' (k+1) _ _ _ m1 _ (fun j=>by have:=hk (j+1);simpa[Nat.add_assoc,Nat.add_comm 1 j]using this) hps' (e r hr) hR1 hT1
   (fun σ' H' hK m' a' w' h2 h3 h4=>hQ σ' H' hK m' a' w' (hm.trans h2) h3 h4)
theorem lx_orders {N n:Nat}{R:List IV->Heap->Prop}{K:IX->Sg->Heap->Prop}{E:Sg}{H:Heap}(hK:∀σ' H',K .normal σ' H'->R (rep n σ') H')
  (hiso:∀(r1 r2:Sg×Heap),isoSt H.length r1.1 r1.2 r2.1 r2.2=true->R (rep n r1.1) r1.2->R (rep n r2.1) r2.2) :
  ∀(t:Ord) (ops:Array Oper) (pc:PC),compT P n t ops=some pc->lxW cal O N (lowC P pc) E H K->TAll P O R (rep n E) H t ops:=by
 have leaf:∀{ops:Array Oper} {l:List POp} {r:Sg×Heap},okDraw P ops=true->pOpers n ops ops.toList=some l->ldraw cal O (l.map (lowP P)) (loose P ops) E H=some r->R (rep n r.1) r.2->TAll P O R (rep n E) H .leaf ops:=by
  intro ops l r hok hl h1 hR;have h3:=lowP_draw (O:=O) hcal l (loose P ops) E H r h1;exact⟨_,_,by rw[rep_draw hok hl E H,h3];rfl,hR⟩
 have rp:∀(t:Ord) (ops:Array Oper) (pc:PC),compT P n t ops=some pc->∀r,altRep cal O (lowC P pc) E H=some r->R (rep n r.1) r.2->TAll P O R (rep n E) H t ops:=by
  intro t
  induction t with
  | leaf =>
   intro ops pc hc r e hR;simp only[compT]at hc;split at hc
   ·rename_i hok;obtain⟨l,hl,hc⟩:=obs hc
    cases hc
    exact leaf hok hl e hR
   ·cases hc
  | node c z L l r ihl ihr =>
   intro ops pc hc q e hR;simp only[compT]at hc;split at hc
   ·rename_i hok;obtain⟨a,ha,hc⟩:=obs hc;obtain⟨b,hb,hc⟩:=obs hc
    cases hc
    simp only[lowC,altRep]at e;split at e
    ·rename_i r1 r2 e1 e2
     cases hi:isoSt H.length r1.1 r1.2 r2.1 r2.2 with
     | false=>rw[hi]at e;cases e
     | true =>
      rw[hi]at e
      cases e
      exact⟨hok.1,hok.2.1,hok.2.2,ihl _ _ ha _ e1 hR,ihr _ _ hb _ e2 (hiso _ _ hi hR)⟩
    ·cases e
   ·cases hc
 intro t
 induction t with
 | leaf =>
  intro ops pc hc e;simp only[compT]at hc;split at hc
  ·rename_i hok;obtain⟨l,hl,hc⟩:=obs hc
   cases hc
   obtain⟨r,h1,h2⟩:=e;exact leaf hok hl h1 (hK _ _ h2)
  ·cases hc
 | node c z L l r ihl ihr =>
  intro ops pc hc e;have hc':=hc;simp only[compT]at hc;split at hc
  ·rename_i hok;obtain⟨a,ha,hc⟩:=obs hc;obtain⟨b,hb,hc⟩:=obs hc
   cases hc
   rcases e with⟨e1,e2⟩ | ⟨q,e1,e2⟩
   ·exact⟨hok.1,hok.2.1,hok.2.2,ihl _ _ ha e1,ihr _ _ hb e2⟩
   ·exact rp _ _ _ hc' q e1 (hK _ _ e2)
  ·cases hc
theorem wp_lxW (hm:P.follows .mixedOrders=true)(N:Nat):∀(c:Code) (pc:PC),compile P n c=some pc->∀(E:Sg) (H:Heap) (K:IX->Sg->Heap->Prop),lxW cal O N (lowC P pc) E H K ->
  ∀(m:Mp) (a:Act) (w:World) (Q:Exit->Act->World->Prop),Rel B0 w0 m H w->TR m (rep n E) a->(∀x σ' H',K x σ' H'->Post B0 w0 m x (rep n σ') H' Q)->c.wp P Q a w:=by
 intro c
 induction c with
 | skip =>
  intro pc hc E H K e m a w Q hR hT hQ
  cases hc
  exact wp_skip (hQ _ _ _ e m a w (Ext.refl m) hR hT)
 | label l =>
  intro pc hc E H K e m a w Q hR hT hQ
  cases hc
  exact wp_label (hQ _ _ _ e m a w (Ext.refl m) hR hT)
 | region id ops draw =>
  intro pc hc E H K e m a w Q hR hT hQ
  cases draw with
  | false =>
   simp only[compile]at hc;obtain⟨l,hl,hc⟩:=obs hc
   cases hc
   refine wp_region ?_;have:=wp_lopsW (P:=P) (Q:=Q) (K:=K .normal) hφ hcal ops.toList l 0 E H w m a (fun j=>by simp) hl e hR hT (fun σ' H' hK m' a' w' g1 g2 g3=>hQ _ _ _ hK m' a' w' g1 g2 g3)
   rwa [Array.length_toList,←List.range_eq_range']at this
  | true =>
   simp only[compile]at hc;split at hc
   ·rename_i hok;obtain⟨l,hl,hc⟩:=obs hc
    cases hc
    obtain⟨r,h1,h2⟩:=e;have h3:=lowP_draw (O:=O) hcal l (loose P ops) E H r h1;have h4:idraw P O ops (rep n E) H=some (rep n r.1,r.2):=by
     rw[rep_draw hok hl E H,h3];rfl
    exact wp_idraw hφ hm h4 hR hT (fun m' a' w' g1 g2 g3=>hQ _ _ _ h2 m' a' w' g1 g2 g3)
   ·unfold compileA at hc;refine wp_orders hφ hm (lx_orders hφ hcal (R:=fun ts' H'=>∀m' a' w',Ext m m'->Rel B0 w0 m' H' w'->TR m' ts' a'->Q .normal a' w') (fun σ' H' hk m' a' w' g1 g2 g3=>hQ _ _ _ hk m' a' w' g1 g2 g3) (fun r1 r2 hi h m' a' w' g1 g2 g3=> ?_) _ _ _ hc e) hR hT (fun ts' H' h=>h);obtain⟨m1,f1,f2,f3⟩:=iso_rel hi hR.dom g1 g2 g3;exact h m1 a' w' f1 f2 f3
 | seq c d ihc ihd =>
  intro pc hc E H K e m a w Q hR hT hQ;simp only[compile]at hc;obtain⟨x,hx,hc⟩:=obs hc;obtain⟨y,hy,hc⟩:=obs hc
  cases hc
  refine wp_seq (ihc x hx E H _ e m a w _ hR hT ?_);intro x1 σ1 H1 hK m' a' w' g1 g2 g3
  cases x1 with
  | normal=>exact ihd y hy σ1 H1 K hK m' a' w' Q g2 g3 (fun x2 σ2 H2 k2 m2 a2 w2 k4 k5 k6=>hQ x2 σ2 H2 k2 m2 a2 w2 (g1.trans k4) k5 k6)
  | exit id=>exact hQ _ _ _ hK m' a' w' g1 g2 g3
  | ret=>exact hQ _ _ _ hK m' a' w' g1 g2 g3
 | cond c x1 x2 ih1 ih2 =>
  intro pc hc E H K e m a w Q hR hT hQ;simp only[compile]at hc;split at hc
  ·rename_i hopd;obtain⟨x,hx,hc⟩:=obs hc;obtain⟨y,hy,hc⟩:=obs hc
   cases hc
   simp only[lowC]at e
   cases hl:lowA c with
   | none=>rw[hl]at e;exact e.elim
   | some y' =>
    rw[hl]at e;simp only[lxW]at e;have hev:env (rep n E) c=some (la E y'):=by rw[rep_env hopd E];exact lowA_env hl E
    split at e
    ·rename_i hb;rw[hb]at hev;have:=hT.env _ _ hev;simp only[VR]at this;exact wp_cond_true this (ih1 x hx E H K e m a w Q hR hT hQ)
    ·rename_i hb;rw[hb]at hev;have:=hT.env _ _ hev;simp only[VR]at this;exact wp_cond_false this (ih2 y hy E H K e m a w Q hR hT hQ)
    ·exact e.elim
  ·cases hc
 | block id c ih =>
  intro pc hc E H K e m a w Q hR hT hQ;simp only[compile]at hc;obtain⟨x,hx,hc⟩:=obs hc
  cases hc
  refine wp_block (ih x hx E H _ e m a w _ hR hT ?_);intro x1 σ1 H1 hK m' a' w' g1 g2 g3
  cases x1 with
  | normal=>exact hQ _ _ _ hK m' a' w' g1 g2 g3
  | exit id' =>
   simp only at hK;simp only[IX.to,Exit.inBlock];split at hK
   ·rename_i hid;rw[if_pos hid];exact hQ _ _ _ hK m' a' w' g1 g2 g3
   ·rename_i hid;rw[if_neg hid];exact hQ _ _ _ hK m' a' w' g1 g2 g3
  | ret=>exact hQ _ _ _ hK m' a' w' g1 g2 g3
 | loop c ih =>
  intro pc hc E H K e m a w Q hR hT hQ;simp only[compile]at hc;obtain⟨x,hx,hc⟩:=obs hc
  cases hc
  simp only[lowC,lxW]at e;have key:∀(k:Nat) (E:Sg) (H:Heap) (m:Mp) (a:Act) (w:World),itW (lxW cal O N (lowC P x)) k E H K->Rel B0 w0 m H w->TR m (rep n E) a->(∀x σ' H',K x σ' H'->Post B0 w0 m x (rep n σ') H' Q)->Code.rounds P c Q k a w:=by
   intro k
   induction k with
   | zero=>intro E H m a w e;exact e.elim
   | succ k ihk =>
    intro E H m a w e hR hT hQ;rw[rounds_succ];refine ih x hx E H _ e m a w _ hR hT ?_;intro x1 σ1 H1 hK m' a' w' g1 g2 g3
    cases x1 with
    | normal=>exact ihk σ1 H1 m' a' w' hK g2 g3 (fun x2 σ2 H2 k2 m2 a2 w2 k4 k5 k6=>hQ x2 σ2 H2 k2 m2 a2 w2 (g1.trans k4) k5 k6)
    | exit id=>exact hQ _ _ _ hK m' a' w' g1 g2 g3
    | ret=>exact hQ _ _ _ hK m' a' w' g1 g2 g3
  exact wp_loop_rounds N (key N E H m a w e hR hT hQ)
 | exit id =>
  intro pc hc E H K e m a w Q hR hT hQ
  cases hc
  exact wp_exit (hQ _ _ _ e m a w (Ext.refl m) hR hT)
 | ret =>
  intro pc hc E H K e m a w Q hR hT hQ
  cases hc
  exact wp_ret (hQ _ _ _ e m a w (Ext.refl m) hR hT)
 | scope c ih =>
  intro pc hc E H K e m a w Q hR hT hQ;simp only[compile]at hc;exact wp_scope_straight (ih pc hc E H K e m a w _ hR hT (fun x σ' H' hK m' a' w' g1 g2 g3=>by have:=hQ x σ' H' hK m' a' w' g1 g2 g3;cases x<;>exact this))
 | rangeFunc f ps as' body _ _=>intro pc hc;simp[compile]at hc
 | goto l=>intro pc hc;simp[compile]at hc
 | refuse why=>intro pc hc;simp[compile]at hc
def endW (rs:List LRes)(K:IV->Heap->Prop):IX->Sg->Heap->Prop
 | .exit _,_,_=>False
 | _,E,H=>∃vs,lresults E H rs=some vs/\K (pack vs) H
def lrunW (cal:FuncId->Bool)(O:Oracle)(N:Nat)(lf:LFun)(args:List IV)(H:Heap)(K:IV->Heap->Prop):Prop:=lxW cal O N lf.pc (initFrom 0 args) H (endW lf.rs K)
end
def SimW (P:Program)(f:FuncId)(args:List IV)(H:Heap)(K:IV->Heap->Prop):Prop :=
 ∀(B0:Nat) (w0 w:World) (m:Mp) (us:Array Value),Rel B0 w0 m H w->VRs m args us.toList ->
  Calls P f us w fun e w'=>∃r H' m' u,K r H'/\e=.returned u/\Ext m m'/\Rel B0 w0 m' H' w'/\VR m' r u
end Go.Shade
namespace Go.Shade
open Go.RowKit
theorem sim_W {P:Program}{O:Oracle}{cal:FuncId->Bool}(hφ:Sound P O)(hcal:∀g,cal g=true->callable P g=true)(hm:P.follows .mixedOrders=true){N:Nat}{f:FuncId}{fn:Func}{lf:LFun}(hf:P.funcs[f]? =some fn)(hc:lowF P fn=some lf){args:List IV}{H:Heap}(hl:args.length<=lf.n){K:IV->Heap->Prop}
  (h:lrunW cal O N lf args H K):SimW P f args H K:=by
 unfold lowF at hc;obtain⟨pf,h1,hc⟩:=oB hc;obtain⟨rs,h2,hc⟩:=oB hc
 cases hc
 unfold compileF at h1;obtain⟨c,g1,h1⟩:=obs h1;obtain⟨pc,g2,h1⟩:=obs h1;split at h1
 ·rename_i hres
  cases h1
  intro B0 w0 w m us hR hA;have hl':=hA.length;simp only[Array.length_toList]at hl';simp only at hl;have hT:TR m (rep fn.ntmps (initFrom 0 args)) { tmps:=us++Array.replicate (fn.ntmps - us.size) undef,defers:=[] }:=by
   rw[←rep_init hl];refine⟨?_,rfl⟩;simp only[Array.toList_append,Array.toList_replicate];rw[hl'];exact hA.append (VRs.replicate (VR_unit m) _)
  refine calls_of_wp hf g1 (wp_lxW hφ hcal hm N c pc g2 _ H _ h m _ w _ hR hT ?_);intro x σ' H' hK m' a' w' k1 k2 k3;have fin:(∃vs,lresults σ' H' rs=some vs/\K (pack vs) H')->a'.defers=[]/\∃v,(results fn a'.tmps).run P w'=.ok v w'/\∃r H' m' u,K r H'/\Ending.returned v=.returned u/\Ext m m'/\Rel B0 w0 m' H' w'/\VR m' r u:=by
   rintro⟨vs,hvs,hk⟩;have hvs':iresults P (rep fn.ntmps σ') H' fn.results.toList=some vs:=by
    rw[rep_results hres,lowRess_le h2];exact hvs
   obtain⟨u,q1,q2⟩:=run_results (P:=P) k2 k3 hvs';exact⟨k3.2,u,q1,_,H',m',u,hk,rfl,k1,k2,q2⟩
  cases x with
  | normal=>exact fin hK
  | ret=>exact fin hK
  | exit id=>exact hK.elim
 ·cases h1
abbrev Outs :=Option (List (IV×Heap))
def outs :List Outs->Outs
 | []=>some []
 | [a]=>a
 | a::l=>a.bind fun x=>(outs l).bind fun y=>some (x++y)
def lopsO (cal:FuncId->Bool)(O:Oracle):List LO->Sg->Heap->(Sg->Heap->Outs)->Outs
 | [],E,H,k=>k E H
 | p::ps,E,H,k=>match lopW cal O p E H with
  | none=>none
  | some l=>outs (l.map fun r=>lopsO cal O ps (pput E p.d r.1) r.2 k)
def itO (body:Sg->Heap->(IX->Sg->Heap->Outs)->Outs):Nat->Sg->Heap->(IX->Sg->Heap->Outs)->Outs
 | 0,_,_,_=>none
 | n+1,E,H,k=>body E H fun x E H=>match x with
  | .normal=>itO body n E H k
  | x=>k x E H
def lxO (cal:FuncId->Bool)(O:Oracle)(n:Nat):LC->Sg->Heap->(IX->Sg->Heap->Outs)->Outs
 | .skip,E,H,k=>k .normal E H
 | .reg l,E,H,k=>lopsO cal O l E H (k .normal)
 | .drw l ps,E,H,k=>match ldraw cal O l ps E H with
  | none=>none
  | some r=>k .normal r.1 r.2
 | .seq a b,E,H,k=>lxO cal O n a E H fun x E H=>match x with
  | .normal=>lxO cal O n b E H k
  | x=>k x E H
 | .cond c a b,E,H,k=>match la E c with
  | .bool true=>lxO cal O n a E H k
  | .bool false=>lxO cal O n b E H k
  | _=>none
 | .block id a,E,H,k=>lxO cal O n a E H fun x E H=>match x with
  | .exit id'=>bif Nat.beq id' id then k .normal E H else k (.exit id') E H
  | x=>k x E H
 | .loop a,E,H,k=>itO (lxO cal O n a) n E H k
 | .exit id,E,H,k=>k (.exit id) E H
 | .ret,E,H,k=>k .ret E H
 | .bad,_,_,_=>none
 | .alt a b,E,H,k=>match altRep cal O (.alt a b) E H with
  | some r=>k .normal r.1 r.2
  | none=>none
def Some' (L:List (IV×Heap))(o:Outs):Prop:=∃l,o=some l/\∀r∈l,r∈L
theorem outs_mem :∀{l:List Outs} {L:List (IV×Heap)},Some' L (outs l)->∀a∈l,Some' L a
 | [],L,h,a,ha=>by cases ha
 | [b],L,h,a,ha=>by
  have:a=b:=by simpa using ha
  subst this;exact h
 | b::c::l,L,h,a,ha=>by
  obtain⟨r,hr,hL⟩:=h;simp only[outs]at hr;obtain⟨x,hx,hr⟩:=obs hr;obtain⟨y,hy,hr⟩:=obs hr
  cases hr
  rcases List.mem_cons.1 ha with rfl | ha
  ·exact⟨x,hx,fun r hr=>hL r (List.mem_append_left _ hr)⟩
  ·exact outs_mem (l:=c::l) ⟨y,hy,fun r hr=>hL r (List.mem_append_right _ hr)⟩ a ha
section
variable {cal : FuncId -> Bool} {O : Oracle} {L : List (IV × Heap)}
theorem lopsO_W :∀(ps:List LO) (E:Sg) (H:Heap) (k:Sg->Heap->Outs),Some' L (lopsO cal O ps E H k)->lopsW cal O ps E H (fun E H=>Some' L (k E H))
 | [],E,H,k,h=>h
 | p::ps,E,H,k,h=>by
  simp only[lopsO]at h;simp only[lopsW]
  cases hl:lopW cal O p E H with
  | none=>rw[hl]at h;obtain⟨l,e,_⟩:=h;cases e
  | some l =>
   rw[hl]at h;exact⟨l,rfl,fun r hr=>lopsO_W ps _ _ k (outs_mem h _ (List.mem_map.2 ⟨r,hr,rfl⟩))⟩
theorem lopsW_mono :∀{ps:List LO} {E:Sg} {H:Heap} {k k':Sg->Heap->Prop},(∀E H,k E H->k' E H)->lopsW cal O ps E H k->lopsW cal O ps E H k'
 | [],E,H,k,k',hk,h=>hk _ _ h
 | p::ps,E,H,k,k',hk,h=>by
  obtain⟨l,h1,h2⟩:=h;exact⟨l,h1,fun r hr=>lopsW_mono hk (h2 r hr)⟩
theorem itW_mono {b:Sg->Heap->(IX->Sg->Heap->Prop)->Prop}(hb:∀(E:Sg) (H:Heap) (k k':IX->Sg->Heap->Prop),(∀x E H,k x E H->k' x E H)->b E H k->b E H k'):∀{n:Nat} {E:Sg} {H:Heap} {k k':IX->Sg->Heap->Prop},(∀x E H,k x E H->k' x E H)->itW b n E H k->itW b n E H k'
 | 0,E,H,k,k',hk,h=>h
 | n+1,E,H,k,k',hk,h=>by
  simp only[itW]at h ⊢;refine hb _ _ _ _ (fun x E H hx=> ?_) h
  cases x with
  | normal=>exact itW_mono (b:=b) hb hk hx
  | exit id=>exact hk _ _ _ hx
  | ret=>exact hk _ _ _ hx
theorem lxW_mono {n:Nat}:∀{c:LC} {E:Sg} {H:Heap} {k k':IX->Sg->Heap->Prop},(∀x E H,k x E H->k' x E H)->lxW cal O n c E H k->lxW cal O n c E H k':=by
 intro c
 induction c with
 | skip=>intro E H k k' hk h;exact hk _ _ _ h
 | reg l=>intro E H k k' hk h;exact lopsW_mono (hk .normal) h
 | drw l ps=>intro E H k k' hk h;obtain⟨r,h1,h2⟩:=h;exact⟨r,h1,hk _ _ _ h2⟩
 | alt a b iha ihb =>
  intro E H k k' hk h;rcases h with h | ⟨r,h1,h2⟩
  ·exact .inl ⟨iha hk h.1,ihb hk h.2⟩
  ·exact .inr ⟨r,h1,hk _ _ _ h2⟩
 | seq a b iha ihb =>
  intro E H k k' hk h;simp only[lxW]at h ⊢;refine iha (fun x E H hx=> ?_) h
  cases x with
  | normal=>exact ihb hk hx
  | exit id=>exact hk _ _ _ hx
  | ret=>exact hk _ _ _ hx
 | cond c a b iha ihb =>
  intro E H k k' hk h;simp only[lxW]at h ⊢;split at h
  ·exact iha hk h
  ·exact ihb hk h
  ·exact h
 | block id a ih =>
  intro E H k k' hk h;simp only[lxW]at h ⊢;refine ih (fun x E H hx=> ?_) h
  cases x with
  | normal=>exact hk _ _ _ hx
  | exit id' =>
   simp only at hx ⊢;split at hx
   ·rename_i hid;rw[if_pos hid];exact hk _ _ _ hx
   ·rename_i hid;rw[if_neg hid];exact hk _ _ _ hx
  | ret=>exact hk _ _ _ hx
 | loop a ih=>intro E H k k' hk h;exact itW_mono (b:=lxW cal O n a) (fun E H k k' hk h=>ih hk h) hk h
 | exit id=>intro E H k k' hk h;exact hk _ _ _ h
 | ret=>intro E H k k' hk h;exact hk _ _ _ h
 | bad=>intro E H k k' hk h;exact h
theorem lxO_W {n:Nat}:∀(c:LC) (E:Sg) (H:Heap) (k:IX->Sg->Heap->Outs),Some' L (lxO cal O n c E H k)->lxW cal O n c E H (fun x E H=>Some' L (k x E H)):=by
 intro c
 induction c with
 | skip=>intro E H k h;exact h
 | reg l=>intro E H k h;exact lopsO_W l E H _ h
 | drw l ps =>
  intro E H k h;simp only[lxO]at h
  cases hr:ldraw cal O l ps E H with
  | none=>rw[hr]at h;obtain⟨l,e,_⟩:=h;cases e
  | some r=>rw[hr]at h;exact⟨r,hr,h⟩
 | alt a b _ _ =>
  intro E H k h;simp only[lxO]at h;split at h
  ·rename_i r e1;exact .inr ⟨r,e1,h⟩
  ·obtain⟨l,e,_⟩:=h;cases e
 | seq a b iha ihb =>
  intro E H k h;simp only[lxO]at h;simp only[lxW];refine lxW_mono (fun x E H hx=> ?_) (iha _ _ _ h)
  cases x with
  | normal=>exact ihb _ _ _ hx
  | exit id=>exact hx
  | ret=>exact hx
 | cond c a b iha ihb =>
  intro E H k h;simp only[lxO]at h;simp only[lxW];split at h
  ·rename_i hb;first | exact iha _ _ _ h | (rw[hb];exact iha _ _ _ h)
  ·rename_i hb;first | exact ihb _ _ _ h | (rw[hb];exact ihb _ _ _ h)
  ·obtain⟨l,e,_⟩:=h;cases e
 | block id a ih =>
  intro E H k h;simp only[lxO]at h;simp only[lxW];refine lxW_mono (fun x E H hx=> ?_) (ih _ _ _ h)
  cases x with
  | normal=>exact hx
  | exit id' =>
   simp only at hx ⊢
   cases hb:Nat.beq id' id with
   | true=>rw[hb]at hx;rw[if_pos (Nat.eq_of_beq_eq_true hb)];exact hx
   | false =>
    rw[hb]at hx;rw[if_neg (fun e=>by subst e;rw[Nat.beq_refl]at hb;cases hb)];exact hx
  | ret=>exact hx
 | loop a ih =>
  intro E H k h;simp only[lxO]at h;simp only[lxW];have key:∀(j:Nat) (E:Sg) (H:Heap),Some' L (itO (lxO cal O n a) j E H k)->itW (lxW cal O n a) j E H (fun x E H=>Some' L (k x E H)):=by
   intro j
   induction j with
   | zero=>intro E H h;obtain⟨l,e,_⟩:=h;cases e
   | succ j ihj =>
    intro E H h;simp only[itO]at h;simp only[itW];refine lxW_mono (fun x E H hx=> ?_) (ih _ _ _ h)
    cases x with
    | normal=>exact ihj _ _ hx
    | exit id=>exact hx
    | ret=>exact hx
  exact key n E H h
 | exit id=>intro E H k h;exact h
 | ret=>intro E H k h;exact h
 | bad=>intro E H k h;obtain⟨l,e,_⟩:=h;cases e
end
def endO (rs:List LRes):IX->Sg->Heap->Outs
 | .exit _,_,_=>none
 | _,E,H=>match lresults E H rs with
  | none=>none
  | some vs=>some [(pack vs,H)]
def lrunO (cal:FuncId->Bool)(O:Oracle)(N:Nat)(lf:LFun)(args:List IV)(H:Heap):Outs:=lxO cal O N lf.pc (initFrom 0 args) H (endO lf.rs)
theorem lrunO_W {cal:FuncId->Bool}{O:Oracle}{N:Nat}{lf:LFun}{args:List IV}{H:Heap}{L:List (IV×Heap)}(h:lrunO cal O N lf args H=some L):lrunW cal O N lf args H (fun r H'=>(r,H')∈L):=by
 refine lxW_mono (fun x E H hx=> ?_) (lxO_W (L:=L) _ _ _ _ ⟨L,h,fun _ h=>h⟩);obtain⟨l,h1,h2⟩:=hx
 cases x with
 | normal =>
  simp only[endO]at h1;split at h1
  ·cases h1
  ·rename_i vs hvs
   cases h1
   exact⟨vs,hvs,h2 _ (List.mem_singleton.2 rfl)⟩
 | ret =>
  simp only[endO]at h1;split at h1
  ·cases h1
  ·rename_i vs hvs
   cases h1
   exact⟨vs,hvs,h2 _ (List.mem_singleton.2 rfl)⟩
 | exit id=>simp[endO]at h1
end Go.Shade
namespace Go.Shade
open Go.RowKit
variable {H : Heap}
inductive CT where
 | int (k:IntKind)
 | bool
 | str
 | sl (es:List CT)
mutual
def Fit (H:Heap):CT->IV->Prop
 | .int k,v=>∃n,v=.int k n/\(Lit.int k n).wf=true
 | .bool,v=>∃b,v=.bool b
 | .str,v=>∃s,v=.str s/\s.length<=maxLen
 | .sl es,v=>v=.nilSlice∨∃(b n:Nat) (elems:List (List IV)),v=.slice b 0 n elems.length true 0/\H[b]? =some (.row elems.flatten true)/\n<=elems.length/\elems.length<=maxLen/\∀e∈elems,Fits H es e
def Fits (H:Heap):List CT->List IV->Prop
 | [],vs=>vs=[]
 | c::cs,vs=>∃v r,vs=v::r/\Fit H c v/\Fits H cs r
end
mutual
theorem Fit.mono {H H':Heap}(h:∀(b:Nat) o,H[b]? =some o->H'[b]? =some o):∀(c:CT) (v:IV),Fit H c v->Fit H' c v
 | .int k,v,hf=>by simpa[Fit]using hf
 | .bool,v,hf=>by simpa[Fit]using hf
 | .str,v,hf=>by simpa[Fit]using hf
 | .sl es,v,hf=>by
  simp only[Fit]at hf ⊢;rcases hf with hf | ⟨b,n,elems,h1,h2,h3,h4,h5⟩
  ·exact .inl hf
  ·exact .inr ⟨b,n,elems,h1,h _ _ h2,h3,h4,fun e he=>Fits.mono h es e (h5 e he)⟩
theorem Fits.mono {H H':Heap}(h:∀(b:Nat) o,H[b]? =some o->H'[b]? =some o):∀(cs:List CT) (vs:List IV),Fits H cs vs->Fits H' cs vs
 | [],vs,hf=>by simpa[Fits]using hf
 | c::cs,vs,hf=>by
  simp only[Fits]at hf ⊢;obtain⟨v,r,h1,h2,h3⟩:=hf;exact⟨v,r,h1,Fit.mono h c v h2,Fits.mono h cs r h3⟩
end
theorem app_mono (X:Heap):∀(b:Nat) o,H[b]? =some o->(H++X)[b]? =some o:=by
 intro b o h;rw[List.getElem?_append_left (ges h).1];exact h
theorem Fits.append {H:Heap}:∀{cs ds:List CT} {vs us:List IV},Fits H cs vs->Fits H ds us->Fits H (cs++ds) (vs++us)
 | [],ds,vs,us,h,k=>by simp only[Fits]at h;subst h;simpa using k
 | c::cs,ds,vs,us,h,k=>by
  simp only[Fits]at h;obtain⟨v,r,rfl,h2,h3⟩:=h;simp only[List.cons_append,Fits];exact⟨v,r++us,rfl,h2,h3.append k⟩
theorem Fits.length {H:Heap}:∀{cs:List CT} {vs:List IV},Fits H cs vs->vs.length=cs.length
 | [],vs,h=>by simp only[Fits]at h;subst h;rfl
 | c::cs,vs,h=>by
  simp only[Fits]at h;obtain⟨v,r,rfl,h2,h3⟩:=h;simp[h3.length]
theorem Fit.one {H:Heap}{c:CT}{v:IV}(h:Fit H c v):v.one=true:=by
 cases c<;>simp only[Fit]at h
 ·obtain⟨n,rfl,_⟩:=h;rfl
 ·obtain⟨n,rfl⟩:=h;rfl
 ·obtain⟨n,rfl,_⟩:=h;rfl
 ·rcases h with rfl | ⟨b,n,e,rfl,_⟩<;>rfl
theorem Fits.one {H:Heap}:∀{cs:List CT} {vs:List IV},Fits H cs vs->∀v∈vs,v.one=true
 | [],vs,h=>by simp only[Fits]at h;subst h;simp
 | c::cs,vs,h=>by
  simp only[Fits]at h;obtain⟨v,r,rfl,h2,h3⟩:=h;intro x hx;rcases List.mem_cons.1 hx with rfl | hx
  ·exact h2.one
  ·exact h3.one x hx
def flatFs (P:Program)(fl:TypeId->Option (List CT)):Nat->List Field->Option (List CT)
 | _,[]=>some []
 | off,f::fs=>if f.offset=off then(fl f.type).bind fun c=>if c.length=P.cellsOf f.type then(flatFs P fl (off+c.length) fs).map (c++ ·)else none else none
def flat (P:Program):Nat->TypeId->Option (List CT)
 | 0,_=>none
 | n+1,t=>match P.underlying t with
  | some .bool=>some [.bool]
  | some (.int k)=>some [.int k]
  | some .string=>some [.str]
  | some (.slice e)=>(flat P n e).bind fun es=>if es.length=P.cellsOf e/\es≠ []then some [.sl es]else none
  | some (.struct fs)=>(flatFs P (flat P n) 0 fs.toList).bind fun cs=>if cs.length=P.cellsOf t then some cs else none
  | _=>none
theorem Rel.pushRo {B0:Nat}{w0 w:World}{m:Mp}(h:Rel B0 w0 m H w)(l:Loc)(cs:List IV)(hg:cs≠ []->∃C e fr,w.heap[l.cb]? =some (.cells C e fr)/\l.cb<B0/\∀(j:Nat) v,cs[j]? =some v->v.one=true/\∃u,C[l.co+j]? =some u/\VR m v u) :
  Rel B0 w0 (grow m H.length l) (H++[.row cs true]) w:=by
 have hext:=grow_ext h l;refine⟨h.below,h.base,fun i k hi=> ?_,fun i o hi=> ?_,fun i j o p li lj hi hj ho hp hne hmi hmj=> ?_⟩
 ·simp only[grow]at hi;split at hi
  ·simp;omega
  ·have:=h.dom i k hi;simp;omega
 ·rw[List.getElem?_append]at hi;split at hi
  ·exact(h.good i o hi).move hext (fun _ _ _=>rfl)
  ·rename_i hge;have hz:i - H.length=0:=by
    rcases Nat.eq_zero_or_pos (i - H.length)with e | e
    ·exact e
    ·rw[List.getElem?_eq_none (by simp;omega)]at hi;exact absurd hi (by simp)
   rw[hz]at hi;simp at hi;subst hi;have:i=H.length:=by omega
   subst this;refine⟨l,grow_at _ _ _,fun hne=> ?_⟩;obtain⟨C,e,fr,h1,h2,h3⟩:=hg hne;exact⟨C,e,fr,h1,h2,fun j v hj=>by obtain⟨h4,u,h5,h6⟩:=h3 j v hj;exact⟨h4,u,h5,h6.ext hext⟩⟩
 ·have key:∀{a:Nat} {q:IObj},(H++[IObj.row cs true])[a]? =some q->q.held=true->H[a]? =some q/\a≠H.length:=by
   intro a q ha hq;rw[List.getElem?_append]at ha;split at ha
   ·exact⟨ha,by omega⟩
   ·rename_i hge;have hz:a - H.length=0:=by
     rcases Nat.eq_zero_or_pos (a - H.length)with e | e
     ·exact e
     ·rw[List.getElem?_eq_none (by simp;omega)]at ha;exact absurd ha (by simp)
    rw[hz]at ha;simp at ha;subst ha;simp[IObj.held]at hq
  obtain⟨h1,h2⟩:=key hi ho;obtain⟨h3,h4⟩:=key hj hp;simp only[grow,if_neg h2]at hmi;simp only[grow,if_neg h4]at hmj;exact h.inj i j o p li lj h1 h3 ho hp hne hmi hmj
def Opened (B0:Nat)(w0 w:World)(m:Mp)(H:Heap)(cts:List CT)(cs:List Value):Prop :=
 ∃m' X ivs,Ext m m'/\Rel B0 w0 m' (H++X) w/\VRs m' ivs cs/\Fits (H++X) cts ivs
theorem add_add' (a:Addr)(i j:Nat):(a.add i).add j=a.add (i+j):=by
 unfold Addr.add;by_cases hi:i=0
 ·subst hi;simp
 ·by_cases hj:j=0
  ·subst hj;simp
  ·rw[if_neg hi,if_neg hj,if_neg (by omega)];simp[Nat.add_assoc]
theorem cell_lt {w:World}{a:Addr}{v:Value}(h:w.cell? a=some v):a.spot=none/\∃C e fr,w.heap[a.block]? =some (.cells C e fr)/\C[a.off]? =some v:=by
 unfold World.cell? at h;split at h
 ·rename_i c e fr hc;split at h
  ·cases h
  ·rename_i hs;exact⟨by simpa using hs,c,e,fr,hc,h⟩
 ·cases h
section
variable {K : Type} {enc : TypeId × Value -> K} {P : Program} {w w0 : World} {B0 : Nat} {held : Bool}
theorem open_fields (hB:B0=w.heap.size){n:Nat}(ih:∀t cts,flat P n t=some cts->∀fuel cs x,DataW.trod enc P w 0 (fun _=>true) held fuel t cs=some x->∀m H,Rel B0 w0 m H w->Opened B0 w0 w m H cts cs){fuel:Nat}{cs:List Value} :
  ∀(fs:List Field) (off:Nat) (cts:List CT),flatFs P (flat P n) off fs=some cts->cs.length=off+cts.length ->
   (∀f∈fs,∃x,DataW.trod enc P w 0 (fun _=>true) held fuel f.type ((cs.drop f.offset).take (P.cellsOf f.type))=some x)->∀m H,Rel B0 w0 m H w->Opened B0 w0 w m H cts (cs.drop off)
 | [],off,cts,h,hl,_,m,H,hR=>by
  simp only[flatFs]at h;cases h
  refine⟨m,[],[],Ext.refl m,by simpa using hR,?_,by simp[Fits]⟩;rw[List.drop_of_length_le (by simpa using Nat.le_of_eq hl)];exact VRs.nil m
 | f::fs,off,cts,h,hl,hx,m,H,hR=>by
  simp only[flatFs]at h;split at h
  ·rename_i hoff;obtain⟨c,hc,h⟩:=obs h;split at h
   ·rename_i hcl;simp only[Option.map_eq_some_iff]at h;obtain⟨r,hr,rfl⟩:=h;obtain⟨x,hx1⟩:=hx f (by simp);obtain⟨m1,X1,v1,e1,r1,s1,f1⟩:=ih f.type c hc _ _ _ hx1 m H hR;obtain⟨m2,X2,v2,e2,r2,s2,f2⟩:=open_fields hB ih fs (off+c.length) r hr (by simp at hl;omega) (fun g hg=>hx g (by simp[hg])) m1 (H++X1) r1;refine⟨m2,X1++X2,v1++v2,e1.trans e2,by simpa using r2,?_,?_⟩
    ·have:cs.drop off=(cs.drop off).take c.length++cs.drop (off+c.length):=by
      rw[←List.drop_drop,List.take_append_drop]
     rw[this];rw[hoff,←hcl]at s1;exact(s1.ext e2).append s2
    ·rw[←List.append_assoc];exact(f1.mono (app_mono X2)).append f2
   ·cases h
  ·cases h
theorem open_flat (hB:B0=w.heap.size):∀(n:Nat) (t:TypeId) (cts:List CT),flat P n t=some cts->∀(fuel:Nat) (cs:List Value) (x:DataW K×List MemPlace),DataW.trod enc P w 0 (fun _=>true) held fuel t cs=some x->∀m H,Rel B0 w0 m H w->Opened B0 w0 w m H cts cs
 | 0,_,_,h=>by simp[flat]at h
 | n+1,t,cts,h=>by
  intro fuel cs x hx m H hR;have hxx:=hx;simp only[flat]at h;split at h
  ·rename_i hu
   cases h
   obtain⟨b,rfl,_⟩:=DataW.trod_bool hu hx;exact⟨m,[],[.bool b],Ext.refl m,by simpa using hR,VRs.cons (VR_bool m b) (VRs.nil m),by simp[Fits,Fit]⟩
  ·rename_i k hu
   cases h
   obtain⟨i,rfl,_,hw⟩:=DataW.trod_int hu hx;exact⟨m,[],[.int k i],Ext.refl m,by simpa using hR,VRs.cons (VR_int m k i) (VRs.nil m),by simp[Fits,Fit,hw]⟩
  ·rename_i hu
   cases h
   obtain⟨s,rfl,_,hw⟩:=DataW.trod_string hu hx;refine⟨m,[],[.str s.data.toList],Ext.refl m,by simpa using hR,VRs.cons (by simp[VR]) (VRs.nil m),?_⟩;simp only[Fits,Fit];exact⟨_,_,rfl,⟨_,rfl,by rw[Array.length_toList];exact hw⟩,rfl⟩
  ·rename_i e hu;obtain⟨es,he,h⟩:=obs h;split at h
   ·rename_i hne
    cases h
    rcases Go.Deep.open_slice hu hx with⟨rfl,_⟩ | ⟨a,len,cap,mm,k,D,Pl,rfl,_,hlc,hcm,hmm,_,hi⟩
    ·refine⟨m,[],[.nilSlice],Ext.refl m,by simpa using hR,VRs.cons (by simp[VR]) (VRs.nil m),?_⟩;simp only[Fits,Fit];exact⟨_,_,rfl,.inl rfl,rfl⟩
    ·simp only[if_true]at hmm;subst hmm;have hC:0<es.length:=List.length_pos_iff.2 hne.2;have key:∀j,j<=mm->∃(m':Mp) (X:Heap) (elems:List (List IV)),Ext m m'/\Rel B0 w0 m' (H++X) w/\elems.length=j/\(∀e'∈elems,Fits (H++X) es e')/\elems.flatten.length=j*es.length /\
       (∀(q:Nat) v,elems.flatten[q]? =some v->∃u,w.cell? (a.add q)=some u/\VR m' v u):=by
      intro j
      induction j with
      | zero=>intro _;exact⟨m,[],[],Ext.refl m,by simpa using hR,rfl,by simp,by simp,by simp⟩
      | succ j ihj =>
       intro hj;obtain⟨m1,X1,el,e1,r1,l1,f1,c1,v1⟩:=ihj (by omega);obtain⟨cs',hc,ht⟩:=hi j (by omega);obtain⟨_,hcl,hat⟩:=World.cells?_some hc;obtain⟨m2,X2,iv,e2,r2,s2,f2⟩:=open_flat hB n e es he _ _ _ ht m1 (H++X1) r1;have hivl:=f2.length;refine⟨m2,X1++X2,el++[iv],e1.trans e2,by simpa using r2,by simp[l1],?_,?_,?_⟩
       ·intro e' he';rw[←List.append_assoc];rcases List.mem_append.1 he' with he' | he'
        ·exact(f1 e' he').mono (app_mono X2)
        ·simp at he';subst he';exact f2
       ·simp only[List.flatten_append,List.length_append,c1,List.flatten_cons,List.flatten_nil,List.append_nil,hivl];rw[Nat.add_mul];omega
       ·intro q v hq;simp only[List.flatten_append,List.flatten_cons,List.flatten_nil,List.append_nil]at hq;rw[List.getElem?_append]at hq;split at hq
        ·obtain⟨u,hu1,hu2⟩:=v1 q v hq;exact⟨u,hu1,hu2.ext e2⟩
        ·rename_i hge;rw[c1]at hge hq;obtain⟨u,hu1,hu2⟩:=s2.get hq;have hql:q - j*es.length<es.length:=by have h9:=(ges hq).1;rw[hivl]at h9;exact h9
         have:=hat (q - j*es.length) (by rw[←hne.1];exact hql);rw[hu1,add_add',←hne.1,show j*es.length+(q - j*es.length)=q by omega]at this;exact⟨u,this,hu2⟩
     obtain⟨m1,X1,el,e1,r1,l1,f1,c1,v1⟩:=key mm (Nat.le_refl _);have hspot:0<mm->a.spot=none:=by
      intro hm;have hl:0<el.flatten.length:=by rw[c1];exact Nat.mul_pos hm hC
      obtain⟨u,hu1,_⟩:=v1 0 _ (List.getElem?_eq_getElem hl);have:=(cell_lt hu1).1
      simpa[Addr.add]using this
     have hrow:el.flatten≠ []->∃C e fr,w.heap[a.block]? =some (.cells C e fr)/\a.block<B0/\∀(j:Nat) v,el.flatten[j]? =some v->v.one=true/\∃u,C[a.off+j]? =some u/\VR m1 v u:=by
      intro hne';have hl:0<el.flatten.length:=List.length_pos_iff.2 hne';obtain⟨u,hu1,_⟩:=v1 0 _ (List.getElem?_eq_getElem hl);obtain⟨_,C,e',fr,hc,_⟩:=cell_lt hu1;have ha0:(a.add 0)=a:=by simp[Addr.add]
      rw[ha0]at hc;refine⟨C,e',fr,hc,by rw[hB];exact(Array.getElem?_eq_some_iff.1 hc).1,fun j v hj=> ?_⟩;obtain⟨u',hu',hr'⟩:=v1 j v hj;obtain⟨_,C',e'',fr',hc',hcu⟩:=cell_lt hu';have hab:(a.add j).block=a.block:=by unfold Addr.add;split<;>rfl
      have hao:(a.add j).off=a.off+j:=by unfold Addr.add;split<;>simp_all
      rw[hab,hc]at hc';cases hc'
      rw[hao]at hcu;have hmem:v∈el.flatten:=List.mem_of_getElem? hj;obtain⟨e0,he0,hve⟩:=List.mem_flatten.1 hmem;exact⟨(f1 e0 he0).one v hve,u',hcu,hr'⟩
     have hp:=r1.pushRo ⟨a.block,a.off,0⟩ el.flatten hrow;have hext:=grow_ext r1 ⟨a.block,a.off,0⟩;refine⟨_,X1++[.row el.flatten true],[.slice (H++X1).length 0 len el.length true 0],e1.trans hext,by rw[←List.append_assoc];exact hp,VRs.cons ?_ (VRs.nil _),?_⟩
     ·simp only[VR];refine⟨_,a.off,mm,a.spot,grow_at _ _ _,rfl,by omega,by omega,fun _=>l1.symm,fun h0=>⟨rfl,hspot (by omega)⟩,fun h0=>absurd h0 (by omega)⟩
     ·simp only[Fits,Fit];refine⟨_,_,rfl,.inr ⟨_,len,el,rfl,by rw[←List.append_assoc];simp,by omega,by omega,fun e' he'=> ?_⟩,rfl⟩;rw[←List.append_assoc];exact(f1 e' he').mono (app_mono _)
   ·cases h
  ·rename_i fs hu;obtain⟨cs',hc,h⟩:=obs h;split at h
   ·rename_i hl
    cases h
    obtain⟨xs,k,_,_,hcl,hxl,hf⟩:=DataW.trod_struct hu hx;have:=open_fields (fuel:=k) (cs:=cs) hB (open_flat hB n) fs.toList 0 cts hc (by omega) (fun f hf'=>by
     obtain⟨i,hi⟩:=List.mem_iff_getElem?.1 hf';have hil:i<fs.size:=by simpa using(ges hi).1
     rw[hf i f (by simpa using hi)];exact⟨_,List.getElem?_eq_getElem (by omega)⟩) m H hR
    simpa using this
   ·cases h
  ·cases h
def FitA (H:Heap)(cts:List CT)(agg:Bool)(v:IV):Prop :=
 match agg with
 | true=>∃ivs,v=.agg ivs/\Fits H cts ivs
 | false=>∃c,cts=[c]/\Fit H c v
theorem FitA.mono {H H':Heap}(h:∀(b:Nat) o,H[b]? =some o->H'[b]? =some o){cts:List CT}{agg:Bool}{v:IV}(hf:FitA H cts agg v):FitA H' cts agg v:=by
 cases agg with
 | true=>obtain⟨ivs,h1,h2⟩:=hf;exact⟨ivs,h1,h2.mono h⟩
 | false=>obtain⟨c,h1,h2⟩:=hf;exact⟨c,h1,h2.mono h⟩
structure AT where
 cts:List CT
 agg:Bool
def FitAll (H:Heap):List AT->List IV->Prop
 | [],vs=>vs=[]
 | a::ats,vs=>∃v r,vs=v::r/\FitA H a.cts a.agg v/\FitAll H ats r
def aggOf (P:Program)(t:TypeId):Bool:=match P.underlying t with
 | some (.struct _) | some (.array _ _)=>true
 | _=>false
def atOf (P:Program)(n:Nat)(t:TypeId):Option AT:=(flat P n t).map fun c=>⟨c,aggOf P t⟩
def atsOf (P:Program)(n:Nat):List TypeId->Option (List AT)
 | []=>some []
 | t::ts=>(atOf P n t).bind fun a=>(atsOf P n ts).bind fun ats=>some (a::ats)
theorem open_one (hB:B0=w.heap.size){n:Nat}{t:TypeId}{cts:List CT}(hfl:flat P n t=some cts){v:Value}{d:DataW K}{p:List MemPlace}{r:Reach}{b0:Nat}(hv:Value.okWide P w r b0 t v)(ht:DataW.Trod enc P w 0 (fun _=>true) held t v d p){m:Mp}(hR:Rel B0 w0 m H w) :
  ∃m' X iv,Ext m m'/\Rel B0 w0 m' (H++X) w/\VR m' iv v/\FitA (H++X) cts (aggOf P t) iv:=by
 obtain⟨fuel,hf⟩:=ht;obtain⟨m',X,ivs,h1,h2,h3,h4⟩:=open_flat hB n t cts hfl fuel _ _ hf m H hR
 cases ha:aggOf P t with
 | true =>
  have hagg:∃cs,v=.agg cs:=by
   unfold aggOf at ha;split at ha
   ·rename_i hu;simp only[Value.okWide,hu]at hv;obtain⟨cs,hv,_⟩:=hv;exact⟨cs,hv⟩
   ·rename_i hu;simp only[Value.okWide,hu]at hv;obtain⟨cs,hv,_⟩:=hv;exact⟨cs,hv⟩
   ·cases ha
  obtain⟨cs,rfl⟩:=hagg;exact⟨m',X,.agg ivs,h1,h2,by simp only[VR];exact⟨cs,rfl,by simpa[Value.cells]using h3⟩,⟨ivs,rfl,h4⟩⟩
 | false =>
  have hone:∃c,cts=[c]:=by
   cases n with
   | zero=>simp[flat]at hfl
   | succ n =>
    simp only[flat]at hfl;split at hfl
    ·cases hfl;exact⟨_,rfl⟩
    ·cases hfl;exact⟨_,rfl⟩
    ·cases hfl;exact⟨_,rfl⟩
    ·obtain⟨es,_,hfl⟩:=obs hfl;split at hfl
     ·cases hfl;exact⟨_,rfl⟩
     ·cases hfl
    ·rename_i fs hu;unfold aggOf at ha;rw[hu]at ha;cases ha
    ·cases hfl
  obtain⟨c,rfl⟩:=hone;simp only[Fits]at h4;obtain⟨iv,rr,rfl,h5,rfl⟩:=h4;simp only[VRs]at h3;obtain⟨u,us,h6,h7,h8⟩:=h3;subst h8;have hvc:v=u:=by
   have hna:∀cs,v≠ .agg cs:=by
    rintro cs rfl
    cases n with
    | zero=>simp[flat]at hfl
    | succ n =>
     simp only[flat]at hfl;simp only[Value.okWide]at hv;unfold aggOf at ha
     cases hu:P.underlying t with
     | none=>rw[hu]at hfl;cases hfl
     | some dd=>rw[hu]at hv ha;cases dd<;>simp_all [Cell.okWide,Cell.ok]
   cases v<;>simp_all [Value.cells]
  subst hvc;exact⟨m',X,iv,h1,h2,h7,⟨c,rfl,h5⟩⟩
theorem open_all (hB:B0=w.heap.size){n:Nat}{r:Reach}{b0:Nat}:∀{ts:List TypeId} {ats:List AT} {vs:List Value} {ds:List (DataW K)} {p:List MemPlace},atsOf P n ts=some ats ->
  (∀(j:Nat) t v,ts[j]? =some t->vs[j]? =some v->Value.okWide P w r b0 t v)->DataW.TrodAll enc P w 0 (fun _=>true) held ts vs ds p->∀{m:Mp} {H:Heap},Rel B0 w0 m H w ->
  ∃m' X ivs,Ext m m'/\Rel B0 w0 m' (H++X) w/\VRs m' ivs vs/\FitAll (H++X) ats ivs
 | [],ats,vs,ds,p,ha,hv,ht,m,H,hR=>by
  simp only[atsOf]at ha;cases ha
  cases vs with
  | nil=>exact⟨m,[],[],Ext.refl m,by simpa using hR,VRs.nil m,rfl⟩
  | cons v vs=>cases ds<;>simp[DataW.TrodAll]at ht
 | t::ts,ats,vs,ds,p,ha,hv,ht,m,H,hR=>by
  simp only[atsOf]at ha;obtain⟨a,ha1,ha⟩:=obs ha;obtain⟨ats',ha2,ha⟩:=obs ha
  cases ha
  cases vs with
  | nil=>cases ds<;>simp[DataW.TrodAll]at ht
  | cons v vs =>
   cases ds with
   | nil=>simp[DataW.TrodAll]at ht
   | cons d ds =>
    simp only[DataW.TrodAll]at ht;obtain⟨p1,q1,t1,t2,_⟩:=ht;simp only[atOf,Option.map_eq_some_iff]at ha1;obtain⟨c,hc,rfl⟩:=ha1;obtain⟨m1,X1,iv,e1,r1,v1,f1⟩:=open_one hB hc (hv 0 t v rfl rfl) t1 hR;obtain⟨m2,X2,ivs,e2,r2,v2,f2⟩:=open_all hB ha2 (fun j t' v' h1 h2=>hv (j+1) t' v' (by simpa using h1) (by simpa using h2)) t2 r1;refine⟨m2,X1++X2,iv::ivs,e1.trans e2,by simpa using r2,VRs.cons (v1.ext e2) v2,⟨iv,ivs,rfl,?_,?_⟩⟩
    ·rw[←List.append_assoc];exact f1.mono (app_mono X2)
    ·rw[←List.append_assoc];exact f2
end
end Go.Shade
namespace Go.Shade
open Go.RowKit Go.ChangeShapes Go.WideShapes Go.ChangeAt
def T0 :Table:=fun _=>none
theorem soundT0 (P:Program):SoundT P T0:=fun f g h=>by cases h
theorem trodAll_len {K:Type}{enc:TypeId×Value->K}{P:Program}{w:World}{base:Nat}{spare:Nat->Bool}{held:Bool}:∀{ts:List TypeId} {vs:List Value} {ds:List (DataW K)} {p:List MemPlace},DataW.TrodAll enc P w base spare held ts vs ds p->ds.length=ts.length
 | [],[],[],p,h=>rfl
 | t::ts,v::vs,d::ds,p,h=>by
  simp only[DataW.TrodAll]at h;obtain⟨p1,q1,⟨n,h1⟩,h2,rfl⟩:=h;simp[trodAll_len h2]
 | [],_::_,_,_,h=>by simp[DataW.TrodAll]at h
 | [],[],_::_,_,h=>by simp[DataW.TrodAll]at h
 | _::_,[],_,_,h=>by simp[DataW.TrodAll]at h
 | _::_,_::_,[],_,h=>by simp[DataW.TrodAll]at h
theorem trodAll_stays {K:Type}{enc:TypeId×Value->K}{P:Program}{W W':World}(hl:laidOutB P=true)(hb:Below W.heap.size W W'):∀{ts:List TypeId} {vs:List Value} {ds:List (DataW K)} {p:List MemPlace},
  (ts.all fun t=>P.readableRec t&&decide (t<P.types.size))=true->DataW.TrodAll enc P W 0 (fun _=>true) true ts vs ds p->DataW.TrodAll enc P W' 0 (fun b=>decide (b<W.heap.size)) true ts vs ds p
 | [],[],[],p,_,h=>h
 | t::ts,v::vs,d::ds,p,hr,h=>by
  simp only[List.all_cons,Bool.and_eq_true,decide_eq_true_eq]at hr;simp only[DataW.TrodAll]at h ⊢;obtain⟨p1,q1,h1,h2,rfl⟩:=h;refine⟨p1,q1,Below.trod hl hr.1.1 hr.1.2 h1 hb (by obtain⟨n,hn⟩:=h1;exact DataW.trod_lt _ _ _ _ hn),trodAll_stays hl hb ?_ h2,rfl⟩;exact hr.2
 | [],_::_,_,_,_,h=>by simp[DataW.TrodAll]at h
 | [],[],_::_,_,_,h=>by simp[DataW.TrodAll]at h
 | _::_,[],_,_,_,h=>by simp[DataW.TrodAll]at h
 | _::_,_::_,[],_,_,h=>by simp[DataW.TrodAll]at h
def Good1 (P:Program)(T:Table)(f:FuncId)(ats:List AT):Prop:=∀(H:Heap) (ivs:List IV),FitAll H ats ivs->∃H',den P T f ivs H=some (.bool true,H')
theorem rel_start (W:World):Rel W.heap.size W (fun _=>none) [] W :=
 ⟨Below.refl _ _,Nat.le_refl _,(fun _ _ h=>by cases h),(fun i o h=>by simp at h),(fun i j o p l k h=>by simp at h)⟩
theorem calls_good {P:Program}{T:Table}(hT:SoundT P T){f:FuncId}{ats:List AT}(hg:Good1 P T f ats)(hm:P.follows .mixedOrders=true){K:Type}{enc:TypeId×Value->K}{ts:List TypeId}{n:Nat}(ha:atsOf P n ts=some ats){W:World}{args:Array Value}{ds:List (DataW K)}{p:List MemPlace}{r:Reach}{b0:Nat}
  (hv:∀(j:Nat) t v,ts[j]? =some t->args.toList[j]? =some v->Value.okWide P W r b0 t v) (ht:DataW.TrodAll enc P W 0 (fun _=>true) true ts args.toList ds p) :
  Calls P f args W fun e W'=>e=.returned (.bool true)/\Below W.heap.size W W':=by
 obtain⟨m,X,ivs,_,hR,hV,hF⟩:=open_all rfl ha hv ht (rel_start W);obtain⟨H',hd⟩:=hg _ ivs hF;refine(sound_den hT hm f ivs _ _ H' hd W.heap.size W W m args hR hV).mono ?_;rintro e W' ⟨m',u,rfl,_,hR',hu⟩;simp only[VR]at hu;subst hu;exact⟨rfl,hR'.below⟩
theorem post_same' {K:Type}{enc:TypeId×Value->K}{P:Program}{fn:Func}{s:ChangeSpec}{tb:TypeId}(hvars:s.vars=[])(hrt:fn.resultTypes.toList=[tb])(hsz:fn.resultTypes.size=1)(htb:P.underlying tb=some .bool)
  (hs:∀ds:List (DataW K),ds.length=fn.params.toList.length->s.fn K ds= { results:=[.lit (.bool true)],args:=ds }) (hl:laidOutB P=true)
  (hr:(fn.params.toList.all fun t=>P.readableRec t&&decide (t<P.types.size))=true) {W W':World} {args:Array Value} {ds gs:List (DataW K)} {before:List MemPlace} (hW:DataW.Whole enc P fn.params.toList s.vars false W args.toList ds gs before) (bel:Below W.heap.size W W') :
  s.post enc P fn false true false false W args (.bool true) W':=by
 have hW':=hW;obtain⟨p,q,hA,hV,rfl,hfz,hnd⟩:=hW;rw[hvars]at hV;obtain⟨rfl,rfl⟩:=trodVars_none hV;have hfn:=hs ds (trodAll_len hA);refine⟨ds,[],_,[],p,[],hW',?_,?_,?_,bel.frame _,fun h=>by cases h⟩
 ·rw[List.append_nil,hfn,hrt,hsz];exact trodAll_mk1 (shut_bool htb _)
 ·rw[List.append_nil,hfn];exact trodAll_stays hl bel hr hA
 ·rw[List.append_nil,hfn,hvars];rfl
end Go.Shade
namespace Go.Shade
open Go.RowKit
section
variable {cal : FuncId -> Bool} {O : Oracle}
theorem lopV_W {p:LO}{E:Sg}{H:Heap}{r:IV×Heap}(h:lopV cal O p E H=some r):lopW cal O p E H=some [r]:=by
 have sp:isSp p.op=true->lwanted p E=false/\r=(.tuple [],H):=by
  intro hx;have hno:lstepV O H (lstep cal H E p.op)=none:=by
   cases ho:p.op<;>rw[ho]at hx<;>first | rfl | (simp[isSp]at hx)
  unfold lopV at h;unfold lwanted
  cases hg:p.g with
  | none=>rw[hg]at h;simp only at h;rw[hno]at h;cases h
  | some q =>
   obtain⟨t,w⟩:=q;rw[hg]at h;simp only at h ⊢
   cases hb:isB (lk E t) w with
   | true=>rw[hb]at h;simp only[if_true]at h;rw[hno]at h;cases h
   | false=>rw[hb]at h;simp only[Bool.false_eq_true,if_false]at h;cases h;exact⟨rfl,rfl⟩
 unfold lopW;split
 ·rename_i x hx;obtain⟨a,b⟩:=sp (by rw[hx];rfl);rw[a,b];rfl
 ·rename_i x hx;obtain⟨a,b⟩:=sp (by rw[hx];rfl);rw[a,b];rfl
 ·rename_i x y hx;obtain⟨a,b⟩:=sp (by rw[hx];rfl);rw[a,b];rfl
 ·rw[h];rfl
theorem lops_W {K:Sg->Heap->Prop}:∀{ps:List LO} {E:Sg} {H:Heap} {r:Sg×Heap},lops cal O ps E H=some r->K r.1 r.2->lopsW cal O ps E H K
 | [],E,H,r,h,hk=>by cases h;exact hk
 | p::ps,E,H,r,h,hk=>by
  obtain⟨q,h1,h2⟩:=obs h;exact⟨[q],lopV_W h1,fun x hx=>by rw[List.mem_singleton.1 hx];exact lops_W h2 hk⟩
theorem lexec_W {n:Nat}:∀{c:LC} {E:Sg} {H:Heap} {x:IX} {σ':Sg} {H':Heap} {k:IX->Sg->Heap->Prop},lexec cal O n c E H=some (x,σ',H')->k x σ' H'->lxW cal O n c E H k:=by
 intro c
 induction c with
 | skip=>intro E H x σ' H' k h hk;cases h;exact hk
 | alt a b _ _=>intro E H x σ' H' k h hk;cases h
 | reg l =>
  intro E H x σ' H' k h hk;obtain⟨r,h1,h2⟩:=obs h
  cases h2
  exact lops_W h1 hk
 | drw l ps =>
  intro E H x σ' H' k h hk;obtain⟨r,h1,h2⟩:=obs h
  cases h2
  exact⟨r,h1,hk⟩
 | seq a b iha ihb =>
  intro E H x σ' H' k h hk;obtain⟨⟨y,σ1,H1⟩,h1,h2⟩:=obs h;refine iha h1 ?_
  cases y with
  | normal=>exact ihb h2 hk
  | exit id=>cases h2;exact hk
  | ret=>cases h2;exact hk
 | cond c a b iha ihb =>
  intro E H x σ' H' k h hk;simp only[lexec]at h;simp only[lxW];split at h
  ·rename_i hc;first | exact iha h hk | (rw[hc];exact iha h hk)
  ·rename_i hc;first | exact ihb h hk | (rw[hc];exact ihb h hk)
  ·cases h
 | block id a ih =>
  intro E H x σ' H' k h hk;obtain⟨⟨y,σ1,H1⟩,h1,h2⟩:=obs h;refine ih h1 ?_
  cases y with
  | normal=>cases h2;exact hk
  | exit id' =>
   simp only at h2 ⊢;split at h2
   ·rename_i e;cases h2;rw[if_pos e];exact hk
   ·rename_i e;cases h2;rw[if_neg e];exact hk
  | ret=>cases h2;exact hk
 | loop a ih =>
  intro E H x σ' H' k h hk;simp only[lexec]at h;simp only[lxW];have key:∀(j:Nat) (E:Sg) (H:Heap),piter (lexec cal O n a) j E H=some (x,σ',H')->itW (lxW cal O n a) j E H k:=by
   intro j
   induction j with
   | zero=>intro E H h;cases h
   | succ j ihj =>
    intro E H h;simp only[piter]at h;simp only[itW];obtain⟨⟨y,σ1,H1⟩,h1,h2⟩:=obs h;refine ih h1 ?_
    cases y with
    | normal=>exact ihj _ _ h2
    | exit id=>cases h2;exact hk
    | ret=>cases h2;exact hk
  exact key n E H h
 | exit id=>intro E H x σ' H' k h hk;cases h;exact hk
 | ret=>intro E H x σ' H' k h hk;cases h;exact hk
 | bad=>intro E H x σ' H' k h hk;cases h
theorem lxK_W {n:Nat}{c:LC}{E:Sg}{H:Heap}{k:KT (IV×Heap)}{Q:Out->Prop}{K:IX->Sg->Heap->Prop}(h:Wp (lxK cal O n c E H k) Q)(hk:∀x σ' H' r,k x σ' H'=some r->Q r->K x σ' H'):lxW cal O n c E H K:=by
 obtain⟨r,h1,h2⟩:=h;rw[lxK_eq]at h1;obtain⟨⟨x,σ',H'⟩,h3,h4⟩:=obs h1;exact lexec_W h3 (hk _ _ _ _ h4 h2)
def lapp' :LC->LC->LC
 | .seq a b,c=>.seq a (lapp' b c)
 | a,c=>.seq a c
end
def lappN :Nat->LC->LC->LC
 | n+1,.seq a b,c=>.seq a (lappN n b c)
 | _,a,c=>.seq a c
theorem lappN_W {cal:FuncId->Bool}{O:Oracle}{n:Nat}{c:LC}:∀{j:Nat} {a:LC} {E:Sg} {H:Heap} {k:IX->Sg->Heap->Prop},lxW cal O n (.seq a c) E H k->lxW cal O n (lappN j a c) E H k:=by
 intro j
 induction j with
 | zero=>intro a E H k h;cases a<;>exact h
 | succ j ih =>
  intro a E H k h
  cases a with
  | seq a b =>
   simp only[lappN,lxW]at h ⊢;refine lxW_mono (fun x E H hx=> ?_) h
   cases x with
   | normal=>exact ih hx
   | exit id=>exact hx
   | ret=>exact hx
  | _=>exact h
theorem lopW_q {cal:FuncId->Bool}{O:Oracle}{d:Nat}{op:LOp}{E:Sg}{H:Heap}{v:IV}(h:isLE op=false)(hq:lq H E op=some v):lopW cal O ⟨some d,op,none⟩ E H=some [(v,H)]:=by
 refine lopV_W ?_;show lstepV O H (lstep cal H E op)=_;unfold lstep;rw[h,if_neg (by simp),hq];rfl
end Go.Shade
namespace Go.Shade
variable {b j : Nat}
abbrev Pr :=IV×IV
def fl :List Pr->List IV
 | []=>[]
 | p::l=>p.1::p.2::fl l
theorem fl_length :∀l:List Pr,(fl l).length=2*l.length
 | []=>rfl
 | p::l=>by simp[fl,fl_length l];omega
theorem fl_append :∀a b:List Pr,fl (a++b)=fl a++fl b
 | [],b=>rfl
 | p::a,b=>by simp[fl,fl_append a b]
theorem fl_drop :∀(l:List Pr) (n:Nat),(fl l).drop (2*n)=fl (l.drop n)
 | l,0=>rfl
 | [],n+1=>by simp[fl]
 | p::l,n+1=>by
  rw[show 2*(n+1)=2*n+2 by omega];simp only[fl,List.drop_succ_cons];exact fl_drop l n
theorem fl_take :∀(l:List Pr) (n:Nat),(fl l).take (2*n)=fl (l.take n)
 | l,0=>rfl
 | [],n+1=>by simp[fl]
 | p::l,n+1=>by
  rw[show 2*(n+1)=2*n+2 by omega];simp only[fl,List.take_succ_cons,fl_take l n]
def one2 (l:List Pr):Prop:=∀p∈l,p.1.one=true/\p.2.one=true
theorem fl_one :∀{l:List Pr},one2 l->(fl l).all IV.one=true
 | [],_=>rfl
 | p::l,h=>by
  simp only[fl,List.all_cons,(h p (by simp)).1,(h p (by simp)).2,Bool.true_and];exact fl_one fun q hq=>h q (List.mem_cons_of_mem _ hq)
theorem fl_put {l:List Pr}(h:j<l.length)(p:Pr):putAt (fl l) (2*j) [p.1,p.2]=fl (l.set j p):=by
 unfold putAt;simp only[List.length_cons,List.length_nil];rw[show 2*j+(0+1+1)=2*(j+1) by omega,fl_take,fl_drop,List.set_eq_take_append_cons_drop,if_pos h,fl_append];simp[fl]
theorem fl_ld {l:List Pr}{p:Pr}(h:l[j]? =some p):((fl l).drop (2*j)).take 2=[p.1,p.2]:=by
 rw[fl_drop];have hj:=(ges h).1;rw[List.drop_eq_getElem_cons hj];have:l[j]=p:=(ges h).2;simp[fl,this]
theorem ld2 {H:Heap}{l:List Pr}{p:Pr}(hb:H[b]? =some (.row (fl l) false))(h:l[j]? =some p):lloadn H 2 (.ptr b (2*j))=some (.agg [p.1,p.2]):=by
 have hj:=(ges h).1;rw[lloadn_ptr,hb,ogn_row,if_pos (by rw[fl_length];omega),fl_ld h]
theorem st2 {H:Heap}{l:List Pr}{p:Pr}(hb:H[b]? =some (.row (fl l) false))(hj:j<l.length)(h1:p.1.one=true)(h2:p.2.one=true):lstV H 2 (.ptr b (2*j)) (.agg [p.1,p.2])=some (.tuple [],H.set b (.row (fl (l.set j p)) false)):=by
 rw[lstV_ptr,hb];unfold putO;simp only[isTuple,IV.cells];rw[if_pos ⟨trivial,rfl,by rw[fl_length];simp;omega,by simp[h1,h2]⟩,fl_put hj];rfl
def swp (l:List Pr)(i j:Nat):List Pr:=match l[i]?,l[j]? with
 | some p,some q=>(l.set i q).set j p
 | _,_=>l
def revAt :Nat->List Pr->Nat->Nat->List Pr
 | 0,l,_,_=>l
 | m+1,l,i,j=>if i<j then revAt m (swp l i j) (i+1) (j - 1)else l
theorem swp_length (l:List Pr)(i j:Nat):(swp l i j).length=l.length:=by unfold swp;split<;>simp
theorem swp_get {l:List Pr}{i:Nat}(hi:i<l.length)(hj:j<l.length)(hij:i<j)(p:Nat):(swp l i j)[p]? =if p=i then l[j]? else if p=j then l[i]? else l[p]? :=by
 unfold swp;rw[List.getElem?_eq_getElem hi,List.getElem?_eq_getElem hj];simp only;rw[List.getElem?_set,List.getElem?_set];simp only[List.length_set];by_cases e1:j=p
 ·subst e1;rw[if_pos rfl,if_pos hj,if_neg (by omega),if_pos rfl]
 ·rw[if_neg e1];by_cases e2:i=p
  ·subst e2;rw[if_pos rfl,if_pos hi,if_pos rfl]
  ·rw[if_neg e2,if_neg (by omega),if_neg (by omega)]
theorem revAt_get :∀(m:Nat) (l:List Pr) (i j:Nat),j<l.length->j<i+2*m->∀p,(revAt m l i j)[p]? =if i<=p/\p<=j then l[i+j - p]? else l[p]?
 | 0,l,i,j,hj,hm,p=>by
  simp only[revAt];rw[if_neg (by omega)]
 | m+1,l,i,j,hj,hm,p=>by
  simp only[revAt];by_cases hij:i<j
  ·rw[if_pos hij,revAt_get m (swp l i j) (i+1) (j - 1) (by rw[swp_length];omega) (by omega)];have hs:=swp_get (l:=l) (by omega) hj hij;by_cases h1:i+1<=p/\p<=j - 1
   ·rw[if_pos h1,if_pos (by omega),hs,if_neg (by omega),if_neg (by omega)]
    congr 1;omega
   ·rw[if_neg h1,hs];by_cases h2:p=i
    ·subst h2;rw[if_pos rfl,if_pos (by omega)];congr 1;omega
    ·rw[if_neg h2];by_cases h3:p=j
     ·subst h3;rw[if_pos rfl,if_pos (by omega)];congr 1;omega
     ·rw[if_neg h3,if_neg (by omega)]
  ·rw[if_neg hij];by_cases h1:i<=p/\p<=j
   ·rw[if_pos h1];congr 1;omega
   ·rw[if_neg h1]
theorem swp_one {l:List Pr}{i:Nat}(h:one2 l):one2 (swp l i j):=by
 unfold swp;split
 ·rename_i p q hp hq;intro x hx;rcases List.mem_or_eq_of_mem_set hx with hx | rfl
  ·rcases List.mem_or_eq_of_mem_set hx with hx | rfl
   ·exact h x hx
   ·exact h _ (List.mem_of_getElem? hq)
  ·exact h _ (List.mem_of_getElem? hp)
 ·exact h
theorem List.set_getElem?_self' {α:Type}:∀{l:List α} {i:Nat} {a:α},l[i]? =some a->l.set i a=l
 | [],i,a,h=>by simp at h
 | x::l,0,a,h=>by simp at h;simp[h]
 | x::l,i+1,a,h=>by simp at h;simp[List.set_getElem?_self' h]
section
variable {cal : FuncId -> Bool} {O : Oracle} {N : Nat}
theorem lix2 {b o n lb:Nat}{ex:Bool}{j:Nat}(hj:j<n):lix 2 (.slice b (2*o) n lb ex 2) (.int .i64 (j:Nat))=some (.ptr b (2*(o+j))):=by
 rw[lix_slice,if_pos (by omega),Int.toNat_natCast,show 2*o+j*2=2*(o+j) by omega]
theorem rev_go {o n lb:Nat}{ex:Bool}(hn9:n<4000000000000):∀(m i j k:Nat) (H:Heap) (l:List Pr),H[b]? =some (.row (fl l) false)->one2 l->i+j+1=n->o+n<=l.length->j<i+2*m->m<k->
  Wp (sRevC0S cal O N (fun H=>some (.tuple [],H)) k (.slice b (2*o) n lb ex 2) (.int .i64 (i:Nat)) (.int .i64 (j:Nat)) H) fun r=>r=(.tuple [],H.set b (.row (fl (revAt m l (o+i) (o+j))) false)):=by
 intro m
 induction m with
 | zero =>
  intro i j k H l hb h1 hij hl hm hk;obtain⟨k,rfl⟩:∃k',k=k'+1:=⟨k - 1,by omega⟩;rw[sRevC0S,lbin_lss,ob_some,decide_eq_false (by omega),cnd_false];exact Wp.ret (by simp only[revAt];rw[List.set_getElem?_self' hb])
 | succ m ih =>
  intro i j k H l hb h1 hij hl hm hk;obtain⟨k,rfl⟩:∃k',k=k'+1:=⟨k - 1,by omega⟩;rw[sRevC0S,lbin_lss,ob_some];by_cases hlt:i<j
  ·have e0:revAt (m+1) l (o+i) (o+j)=revAt m (swp l (o+i) (o+j)) (o+(i+1)) (o+(j - 1)):=by
    simp only[revAt];rw[if_pos (by omega),show o+i+1=o+(i+1) by omega,show o+j - 1=o+(j - 1) by omega]
   rw[decide_eq_true (by omega),cnd_true,lix2 (by omega),ob_some];have hpi:=List.getElem?_eq_getElem (l:=l) (i:=o+i) (by omega);have hpj:=List.getElem?_eq_getElem (l:=l) (i:=o+j) (by omega);have o1:=h1 _ (List.mem_of_getElem? hpi);have o2:=h1 _ (List.mem_of_getElem? hpj);have hsw:swp l (o+i) (o+j)=(l.set (o+i) l[o+j]).set (o+j) l[o+i]:=by unfold swp;rw[hpi,hpj]
   generalize l[o+i]=p at *;generalize l[o+j]=q at *;rw[ld2 hb hpj,ob_some,lix2 (by omega),ob_some,ld2 hb hpi,ob_some,ob_some,st2 hb (by omega) o2.1 o2.2,ob_some];simp only[ob_some];rw[st2 (setAt hb) (by rw[List.length_set];omega) o1.1 o1.2,ob_some];simp only;rw[List.set_set,←hsw,lbin_add,ob_some,wrap_i64 (by omega) (by omega),lbin_sub,ob_some,wrap_i64 (by omega) (by omega),show((i:Nat):Int)+1=((i+1:Nat):Int) by omega,show((j:Nat):Int) - 1=((j - 1:Nat):Int) by omega];refine(ih (i+1) (j - 1) k _ (swp l (o+i) (o+j)) (setAt hb) (swp_one h1) (by omega) (by rw[swp_length];exact hl) (by omega) (by omega)).mono ?_;rintro r rfl;rw[List.set_set,e0]
  ·rw[decide_eq_false (by omega),cnd_false];have e0:revAt (m+1) l (o+i) (o+j)=l:=by simp only[revAt];rw[if_neg (by omega)]
   exact Wp.ret (by rw[e0,List.set_getElem?_self' hb])
end
end Go.Shade
