/- The law MergeNames, part 2. -/
import Derived.Test.YtmkjmfegaalcoaaGreatM1
import Derived.KernelRfl
set_option linter.all false
namespace Go.Shade
open Go.RowKit
variable {H : Heap} {R : Type} {cal : FuncId -> Bool} {n : Nat} {x : IV} {O : Oracle}
def lstV (H:Heap)(n:Nat)(a x:IV):Option (IV×Heap):=match lstore H n a x with
 | some H'=>some (.tuple [],H')
 | none=>none
def lupdV (H:Heap)(k:LS)(d i x:IV):Option (IV×Heap):=match lupdate H k d i x with
 | some H'=>some (.tuple [],H')
 | none=>none
def ldelV (H:Heap)(k:LS)(d i:IV):Option (IV×Heap):=match ldelete H k d i with
 | some H'=>some (.tuple [],H')
 | none=>none
def lmkMn (H:Heap)(x:IV):Option (IV×Heap):=match x with
 | .int .. =>some (.map H.length,H++[.map [] 0])
 | _=>none
def lmkS (H:Heap)(s b:Nat)(z:List IV)(l c:IV):Option (IV×Heap):=match l,c with
 | .int _ l,.int _ c=>if 0<=l/\l<=c/\b*c<=281474976710656/\c<=9223372036854775807 then some (.slice H.length 0 l.toNat c.toNat true s,H++[.row (zrep c.toNat z) false])else none
 | _,_=>none
def ls2b (H:Heap)(x:IV):Option (IV×Heap):=match x with
 | .str l=>some (.slice H.length 0 l.length l.length false 1,H++[.row (l.map fun b=>.int .u8 b.toNat) false])
 | _=>none
def lcpy (H:Heap)(s:Nat)(d x:IV):Option (IV×Heap):=match lcopy H s d x with
 | some (.val v,H')=>some (v,H')
 | _=>none
def lclrM (H:Heap)(d:IV):Option (IV×Heap):=match d with
 | .nilMap=>some (.tuple [],H)
 | .map r=>match H[r]? with
  | some (.map _ clock)=>some (.tuple [],H.set r (.map [] clock))
  | _=>none
 | _=>none
def lclrS (H:Heap)(z:List IV)(d:IV):Option (IV×Heap):=match d with
 | .nilSlice=>some (.tuple [],H)
 | .slice b o n lb _ _ =>
  if n=0 then some (.tuple [],H)else
  match H[b]? with
  | some (.row cs false)=>if o+(zrep n z).length<=cs.length then some (.tuple [],H.set b (.row (putAt cs o (zrep n z)) false))else none
  | _=>none
 | _=>none
def lxtV (H:Heap)(k:Nat)(as':List IV):Option (IV×Heap):=match ixt k as' with
 | some r=>some (r,H)
 | none=>none
def lcapV (H:Heap)(x:IV):Option (IV×Heap):=match lcap x with
 | some r=>some (r,H)
 | none=>none
def lappzV (H:Heap)(s b:Nat)(z:List IV)(d x:IV):Option (IV×Heap):=match lappz H s b z d x with
 | some (.val v,H')=>some (v,H')
 | _=>none
theorem lappz_val {s b:Nat}{z:List IV}{d:IV}{r:INext×Heap}(h:lappz H s b z d x=some r):∃v H',r=(.val v,H'):=by
 unfold lappz at h;split at h
 ·split at h
  ·split at h
   ·split at h
    ·cases h;exact⟨_,_,rfl⟩
    ·cases h
   ·split at h
    ·obtain⟨old,_,h⟩:=oB h;split at h
     ·cases h;exact⟨_,_,rfl⟩
     ·cases h
    ·cases h
   ·cases h
  ·cases h
 ·cases h
def linvV (O:Oracle)(H:Heap)(tbl:List (Nat×FuncId×Nat))(x:IV)(as':List IV):Option (IV×Heap):=match x with
 | .iface t v=>match invFind tbl t with
  | some f=>match irecv H f.2 v with
   | some w=>O f.1 (w::as') H
   | none=>none
  | none=>none
 | _=>none
def leV (cal:FuncId->Bool)(O:Oracle)(H:Heap)(E:Sg):LOp->Option (IV×Heap)
 | .box x=>lbox H (la E x)
 | .zbox z=>some (.ptr H.length 0,H++[.row z.cells false])
 | .bldS s n z parts=>lbldS H s n z (lps E parts)
 | .st n a x=>lstV H n (la E a) (la E x)
 | .mkM=>some (.map H.length,H++[.map [] 0])
 | .mkMn x=>lmkMn H (la E x)
 | .mkS s b z l c=>lmkS H s b z (la E l) (la E c)
 | .upd k d i x=>lupdV H k (la E d) (la E i) (la E x)
 | .s2b x=>ls2b H (la E x)
 | .app s b d x=>lapp H s b (la E d) (la E x)
 | .cpy s d x=>lcpy H s (la E d) (la E x)
 | .clrM d=>lclrM H (la E d)
 | .clrS z d=>lclrS H z (la E d)
 | .del k d i=>ldelV H k (la E d) (la E i)
 | .callF g args=>O g (las E args) H
 | .callV f args=>lcallV cal O H (la E f) (las E args)
 | .xt k args=>lxtV H k (las E args)
 | .cap x=>lcapV H (la E x)
 | .appz s b z d x=>lappzV H s b z (la E d) (la E x)
 | .inv tbl x args=>linvV O H tbl (la E x) (las E args)
 | _=>none
theorem lcopy_val {s:Nat}{d:IV}{r:INext×Heap}(h:lcopy H s d x=some r):∃v H',r=(.val v,H'):=by
 unfold lcopy at h;obtain⟨nx,_,h⟩:=oB h;obtain⟨nd,_,h⟩:=oB h;split at h
 ·cases h
 ·cases h;exact⟨_,_,rfl⟩
 ·split at h
  ·cases h;exact⟨_,_,rfl⟩
  ·obtain⟨new,_,h⟩:=oB h;split at h
   ·split at h
    ·obtain⟨cs',_,h⟩:=oB h
     cases h;exact⟨_,_,rfl⟩
    ·cases h
   ·cases h
 ·cases h
theorem leV_eq {E:Sg}{op:LOp}(h:isLE op=true):leV cal O H E op=lstepV O H (le cal H E op):=by
 cases op<;>simp only[isLE]at h<;>first | (cases h;done) | skip
 ·simp only[leV,le,lbox,ibox];split<;>rfl
 ·rfl
 ·rename_i s n z parts;simp only[leV,le,lbldS]
  cases ifill (fun i=>some (i*s,s)) (zrep n z) (lps E parts)with
  | none=>rfl
  | some c=>simp only[Option.bind_some];split<;>rfl
 ·rename_i n a x;simp only[leV,le,lstV]
  cases lstore H n (la E a) (la E x)<;>rfl
 ·rfl
 ·rename_i x;simp only[leV,le,lmkMn]
  cases la E x<;>rfl
 ·rename_i s b z l c;simp only[leV,le,lmkS]
  cases la E l<;>cases la E c<;>first | rfl | (simp only;split<;>rfl)
 ·rename_i k d i x;simp only[leV,le,lupdV]
  cases lupdate H k (la E d) (la E i) (la E x)<;>rfl
 ·rename_i x;simp only[leV,le,ls2b]
  cases la E x<;>rfl
 ·rename_i s b d x;simp only[leV,le,lapp]
  cases h:lappend H s b (la E d) (la E x)with
  | none=>rfl
  | some r=>obtain⟨v,H',rfl⟩:=lappend_val h;rfl
 ·rename_i s d x;simp only[leV,le,lcpy]
  cases h:lcopy H s (la E d) (la E x)with
  | none=>rfl
  | some r=>obtain⟨v,H',rfl⟩:=lcopy_val h;rfl
 ·rename_i d;simp only[leV,le,lclrM]
  cases la E d<;>first | rfl | skip
  rename_i r;simp only;generalize H[r]? =q;rcases q with _ | o
  ·rfl
  ·cases o<;>rfl
 ·rename_i z d;simp only[leV,le,lclrS]
  cases la E d<;>first | rfl | skip
  simp only;split
  ·rfl
  ·rename_i b o n lb ex sz hn;generalize H[b]? =q;rcases q with _ | o'
   ·rfl
   ·cases o' with
    | row cs ro=>cases ro<;>first | rfl | (simp only;split<;>rfl)
    | _=>rfl
 ·rename_i k d i;simp only[leV,le,ldelV]
  cases ldelete H k (la E d) (la E i)<;>rfl
 ·rfl
 ·rename_i f args;simp only[leV,le,lcallV]
  cases la E f with
  | func fn first cap =>
   cases fn with
   | func g=>simp only;split<;>rfl
   | _=>rfl
  | _=>rfl
 ·rename_i k args;simp only[leV,le,lxtV]
  cases ixt k (las E args)<;>rfl
 ·rename_i x;simp only[leV,le,lcapV]
  cases lcap (la E x)<;>rfl
 ·rename_i s b z d x;simp only[leV,le,lappzV]
  cases h:lappz H s b z (la E d) (la E x)with
  | none=>rfl
  | some r=>obtain⟨v,H',rfl⟩:=lappz_val h;rfl
 ·rename_i tbl x args;simp only[leV,le,linvV]
  cases la E x with
  | iface t v =>
   simp only
   cases invFind tbl t with
   | none=>rfl
   | some f=>simp only[Option.bind_some];cases irecv H f.2 v<;>rfl
  | _=>rfl
def gq (b:Bool)(x:Option IV):Option IV:=if b=true then x else some (.tuple [])
def ge (b:Bool)(H:Heap)(x:Option (IV×Heap)):Option (IV×Heap):=if b=true then x else some (.tuple [],H)
def cnd {R:Type}(v:IV)(a b:Option R):Option R:=match v with
 | .bool true=>a
 | .bool false=>b
 | _=>none
section
variable {R : Type}
def lopK (cal:FuncId->Bool)(O:Oracle)(p:LO)(E:Sg)(H:Heap)(k:IV->Heap->Option R):Option R :=
 match p.g with
 | none=>bif isLE p.op then ob (leV cal O H E p.op) fun r=>k r.1 r.2 else ob (lq H E p.op) fun v=>k v H
 | some (t,w)=>bif isLE p.op then ob (ge (isB (lk E t) w) H (leV cal O H E p.op)) fun r=>k r.1 r.2 else ob (gq (isB (lk E t) w) (lq H E p.op)) fun v=>k v H
def lopsK (cal:FuncId->Bool)(O:Oracle):List LO->Sg->Heap->(Sg->Heap->Option R)->Option R
 | [],E,H,k=>k E H
 | p::ps,E,H,k=>lopK cal O p E H fun v H'=>lopsK cal O ps (pput E p.d v) H' k
def ltraceK (cal:FuncId->Bool)(O:Oracle):List LO->Sg->Heap->(List LRec->Sg->Heap->Option R)->Option R
 | [],E,H,k=>k [] E H
 | p::ps,E,H,k=>lopK cal O p E H fun v H'=>ltraceK cal O ps (pput E p.d v) H' fun rs=>k (⟨p,E,H,v,H'⟩::rs)
def ckd (b:Bool)(x:Option R):Option R:=if b=true then x else none
abbrev KT (R:Type):=IX->Sg->Heap->Option R
def seqK (b:Sg->Heap->KT R->Option R)(k:KT R):KT R
 | .normal,E,H=>b E H k
 | .exit id,E,H=>k (.exit id) E H
 | .ret,E,H=>k .ret E H
def blockK (id:Nat)(k:KT R):KT R
 | .normal,E,H=>k .normal E H
 | .exit id',E,H=>bif Nat.beq id' id then k .normal E H else k (.exit id') E H
 | .ret,E,H=>k .ret E H
def itK (body:Sg->Heap->KT R->Option R):Nat->Sg->Heap->KT R->Option R
 | 0,_,_,_=>none
 | n+1,E,H,k=>body E H (seqK (itK body n) k)
def drwK (cal:FuncId->Bool)(O:Oracle)(l:List LO)(ps:List (Nat×Nat))(E:Sg)(H:Heap)(k:Sg->Heap->Option R):Option R :=
 match ps with
 | []=>lopsK cal O l E H k
 | p::ps=>ltraceK cal O l E H fun rs E H=>ckd ((p::ps).all (llooseOk rs)) (k E H)
def lxK (cal:FuncId->Bool)(O:Oracle)(n:Nat):LC->Sg->Heap->KT R->Option R
 | .skip,E,H,k=>k .normal E H
 | .reg l,E,H,k=>lopsK cal O l E H (k .normal)
 | .drw l ps,E,H,k=>drwK cal O l ps E H (k .normal)
 | .seq a b,E,H,k=>lxK cal O n a E H (seqK (lxK cal O n b) k)
 | .cond c a b,E,H,k=>cnd (la E c) (lxK cal O n a E H k) (lxK cal O n b E H k)
 | .block id a,E,H,k=>lxK cal O n a E H (blockK id k)
 | .loop a,E,H,k=>itK (lxK cal O n a) n E H k
 | .exit id,E,H,k=>k (.exit id) E H
 | .ret,E,H,k=>k .ret E H
 | .bad,_,_,_=>none
 | .alt _ _,_,_,_=>none
theorem itK_succ {b:Sg->Heap->KT R->Option R}{E:Sg}{k:KT R}:itK b (n+1) E H k=b E H (seqK (itK b n) k):=id rfl
def jn {A:Type}(f:A)(g:A->Option R):Option R:=g f
theorem lopK_eq (p:LO)(E:Sg)(H:Heap)(k:IV->Heap->Option R):lopK cal O p E H k=(lopV cal O p E H).bind fun r=>k r.1 r.2:=by
 unfold lopK lopV lstep
 cases p.g with
 | none =>
  simp only
  cases hE:isLE p.op with
  | true=>simp only[cond_true,if_true,leV_eq hE,ob]
  | false =>
   simp only[cond_false,Bool.false_eq_true,if_false,ob]
   cases lq H E p.op<;>rfl
 | some q =>
  obtain⟨t,w⟩:=q;simp only
  cases hE:isLE p.op with
  | true =>
   simp only[cond_true,if_true,ob,ge];split
   ·rw[leV_eq hE]
   ·rfl
  | false =>
   simp only[cond_false,Bool.false_eq_true,if_false,ob,gq];split
   ·cases lq H E p.op<;>rfl
   ·rfl
theorem lopsK_eq {cal:FuncId->Bool}{O:Oracle}:∀(l:List LO) (E:Sg) (H:Heap) (k:Sg->Heap->Option R),lopsK cal O l E H k=(lops cal O l E H).bind fun r=>k r.1 r.2
 | [],E,H,k=>rfl
 | p::ps,E,H,k=>by
  simp only[lopsK,lops,lopK_eq,Option.bind_assoc]
  congr 1
  funext r
  exact lopsK_eq ps _ _ k
theorem ltraceK_eq {cal:FuncId->Bool}{O:Oracle}:∀(l:List LO) (E:Sg) (H:Heap) (k:List LRec->Sg->Heap->Option R),ltraceK cal O l E H k=(ltrace cal O l E H).bind fun r=>k r.1 r.2.1 r.2.2
 | [],E,H,k=>rfl
 | p::ps,E,H,k=>by
  simp only[ltraceK,ltrace,lopK_eq,Option.bind_assoc]
  congr 1
  funext r
  rw[ltraceK_eq ps];rfl
theorem itK_eq {f:PBody}{b:Sg->Heap->(IX->Sg->Heap->Option R)->Option R}(h:∀E H k,b E H k=(f E H).bind fun r=>k r.1 r.2.1 r.2.2):∀(n:Nat) (E:Sg) (H:Heap) (k:IX->Sg->Heap->Option R),itK b n E H k=(piter f n E H).bind fun r=>k r.1 r.2.1 r.2.2
 | 0,E,H,k=>rfl
 | n+1,E,H,k=>by
  simp only[itK,piter,h,Option.bind_assoc]
  congr 1
  funext r
  obtain⟨x,σ',H'⟩:=r
  cases x with
  | normal=>exact itK_eq h n σ' H' k
  | exit id=>rfl
  | ret=>rfl
theorem lxK_eq :∀(c:LC) (E:Sg) (H:Heap) (k:IX->Sg->Heap->Option R),lxK cal O n c E H k=(lexec cal O n c E H).bind fun r=>k r.1 r.2.1 r.2.2:=by
 intro c
 induction c with
 | skip=>intro E H k;rfl
 | reg l=>intro E H k;simp only[lxK,lexec,lopsK_eq,Option.bind_assoc];rfl
 | drw l ps =>
  intro E H k
  cases ps with
  | nil=>simp only[lxK,lexec,drwK,ldraw,lopsK_eq,Option.bind_assoc];rfl
  | cons p ps =>
   simp only[lxK,lexec,drwK,ldraw,ltraceK_eq,Option.bind_assoc]
   congr 1
   funext q
   unfold ckd;split<;>rfl
 | seq a b iha ihb =>
  intro E H k;simp only[lxK,lexec,iha,Option.bind_assoc]
  congr 1
  funext r
  obtain⟨x,σ',H'⟩:=r
  cases x with
  | normal=>exact ihb σ' H' k
  | exit id=>rfl
  | ret=>rfl
 | cond c a b iha ihb =>
  intro E H k;simp only[lxK,lexec,cnd,iha,ihb]
  cases la E c with
  | bool t=>cases t<;>rfl
  | _=>rfl
 | block id a ih =>
  intro E H k;simp only[lxK,lexec,ih,Option.bind_assoc]
  congr 1
  funext r
  obtain⟨x,σ',H'⟩:=r
  cases x with
  | normal=>rfl
  | exit id' =>
   simp only[blockK];by_cases e:id'=id
   ·subst e;rw[if_pos rfl,show Nat.beq id' id'=true from Nat.beq_refl id'];rfl
   ·rw[if_neg e];have:Nat.beq id' id=false:=by
     cases hb:Nat.beq id' id with
     | false=>rfl
     | true=>exact absurd (Nat.eq_of_beq_eq_true hb) e
    rw[this];rfl
  | ret=>rfl
 | loop a ih =>
  intro E H k;simp only[lxK,lexec];exact itK_eq ih n E H k
 | exit id=>intro E H k;rfl
 | ret=>intro E H k;rfl
 | bad=>intro E H k;rfl
 | alt a b _ _=>intro E H k;rfl
end
def resK :List LRes->List IV->Sg->Heap->Option (IV×Heap)
 | [],acc,E,H=>some (pack acc.reverse,H)
 | .tmp t::rs,acc,E,H=>resK rs (lk E t::acc) E H
 | .cell1 t::rs,acc,E,H=>ob (lload1 H (lk E t)) fun v=>resK rs (v::acc) E H
 | .celln t n::rs,acc,E,H=>ob (lloadn H n (lk E t)) fun v=>resK rs (v::acc) E H
theorem resK_eq :∀(rs:List LRes) (acc:List IV) (E:Sg) (H:Heap),resK rs acc E H=(lresults E H rs).bind fun vs=>some (pack (acc.reverse++vs),H)
 | [],acc,E,H=>by simp[resK,lresults]
 | r::rs,acc,E,H=>by
  cases r<;>simp only[resK,lresults,lresult,ob,Option.bind_some,Option.bind_assoc,resK_eq rs,List.reverse_cons,List.append_assoc,List.cons_append,List.nil_append]
def endK (rs:List LRes):IX->Sg->Heap->Option (IV×Heap)
 | .exit _,_,_=>none
 | .normal,E,H=>resK rs [] E H
 | .ret,E,H=>resK rs [] E H
def lrunK (cal:FuncId->Bool)(O:Oracle)(n:Nat)(lf:LFun)(args:List IV)(H:Heap):Option (IV×Heap):=lxK cal O n lf.pc (initFrom 0 args) H (endK lf.rs)
theorem lrunK_le {lf:LFun}{args:List IV}{r:IV×Heap}(h:lrunK cal O n lf args H=some r):lrun cal O lf args H=some r:=by
 unfold lrunK at h;rw[lxK_eq]at h;obtain⟨q,h1,h2⟩:=oB h;unfold lrun;rw[lxd_some.2 ⟨n,h1⟩];obtain⟨x,E,H'⟩:=q
 cases x with
 | normal=>simp only[endK,resK_eq]at h2;simpa[lback]using h2
 | ret=>simp only[endK,resK_eq]at h2;simpa[lback]using h2
 | exit id=>simp[endK]at h2
section
variable {R : Type}
def kN (f:Sg->Heap->Option R)(k:KT R):KT R
 | .normal,E,H=>f E H
 | .exit id,E,H=>k (.exit id) E H
 | .ret,E,H=>k .ret E H
def kE (id:Nat)(f:Sg->Heap->Option R)(k:KT R):KT R
 | .normal,E,H=>k .normal E H
 | .exit id',E,H=>bif Nat.beq id' id then f E H else k (.exit id') E H
 | .ret,E,H=>k .ret E H
def kR (f:Sg->Heap->Option R)(k:KT R):KT R
 | .normal,E,H=>k .normal E H
 | .exit id,E,H=>k (.exit id) E H
 | .ret,E,H=>f E H
theorem kN_mk {f:Sg->Heap->Option R}{k k':KT R}(h:∀E H,k .normal E H=f E H)(e:k=k'):k=kN f k':=by
 subst e;funext x E H;cases x<;>first | exact h E H | rfl
theorem kE_mk {id:Nat}{f:Sg->Heap->Option R}{k k':KT R}(h:∀E H,k (.exit id) E H=f E H)(e:k=k'):k=kE id f k':=by
 subst e;funext x E H
 cases x with
 | exit id' =>
  simp only[kE]
  cases hb:Nat.beq id' id with
  | false=>rfl
  | true=>have:=Nat.eq_of_beq_eq_true hb;subst this;exact h E H
 | _=>rfl
theorem kR_mk {f:Sg->Heap->Option R}{k k':KT R}(h:∀E H,k .ret E H=f E H)(e:k=k'):k=kR f k':=by
 subst e;funext x E H;cases x<;>first | exact h E H | rfl
theorem seqK_mk {b:Sg->Heap->KT R->Option R}{k:KT R}{g:Sg->Heap->Option R}(h:∀E H,b E H k=g E H):seqK b k=kN g k:=by
 funext x E H;cases x<;>first | exact h E H | rfl
end
def lzbox (H:Heap)(z:IV):Option (IV×Heap):=some (.ptr H.length 0,H++[.row z.cells false])
def lmkM (H:Heap):Option (IV×Heap):=some (.map H.length,H++[.map [] 0])
def lbld (z:List IV)(parts:List (Nat×Nat×IV)):Option IV:=(lfill z parts).bind fun r=>some (.agg r)
def lasrt (t:TypeId)(z:IV)(ok:Bool)(x:IV):Option IV:=match x with
 | .nilIface=>if ok then some (.tuple [z,.bool false])else none
 | .iface t' v=>if t'=t then some (if ok then .tuple [v,.bool true]else v)else if ok then some (.tuple [z,.bool false])else none
 | _=>none
theorem gq_true {x:Option IV}:gq true x=x:=id rfl
theorem gq_false {x:Option IV}:gq false x=some (.tuple []):=id rfl
theorem ge_true {x:Option (IV×Heap)}:ge true H x=x:=id rfl
theorem ge_false {x:Option (IV×Heap)}:ge false H x=some (.tuple [],H):=id rfl
theorem cnd_true {a b:Option R}:cnd (.bool true) a b=a:=id rfl
theorem cnd_false {a b:Option R}:cnd (.bool false) a b=b:=id rfl
@[congr] theorem gq_congr {b b' : Bool} {x : Option IV} (h : b = b') : gq b x = gq b' x := by rw [h]
@[congr] theorem ge_congr {b b' : Bool} {x : Option (IV × Heap)} (h : b = b') : ge b H x = ge b' H x := by rw [h]
@[congr] theorem cnd_congr {v v' : IV} {a b : Option R} (h : v = v') : cnd v a b = cnd v' a b := by rw [h]
theorem jn_eq {A:Type}{f:A}{g:A->Option R}:jn f g=g f:=id rfl
theorem lzbox_eq {z:IV}:lzbox H z=some (.ptr H.length 0,H++[.row z.cells false]):=id rfl
theorem cells_agg {cs:List IV}:IV.cells (.agg cs)=cs:=id rfl
theorem cells_one {v:IV}(h:v.one=true):v.cells=[v]:=by cases v<;>first | rfl | (simp[IV.one]at h)
theorem lmkM_eq :lmkM H=some (.map H.length,H++[.map [] 0]):=id rfl
theorem lstV_ptr {b o:Nat}:lstV H n (.ptr b o) x=ob (putO (H[b]?) b o n x H) fun H'=>some (.tuple [],H'):=by
 unfold lstV;rw[lstore_ptr]
 cases putO (H[b]?) b o n x H<;>rfl
theorem ckd_true {x:Option R}:ckd true x=x:=id rfl
attribute [go_sem ↓] gq_true gq_false ge_true ge_false cnd_true cnd_false
attribute [go_sem] lzbox_eq cells_agg cells_one lmkM_eq lstV_ptr Nat.zero_add Nat.add_zero ckd_true
end Go.Shade
namespace Go.Shade
variable {B b s : Nat} {H : Heap} {cs new : List IV} {v : IV}
def Buf (B:Nat)(s:Nat)(H:Heap)(v:IV)(cs:List IV):Prop :=
 (v=.nilSlice/\cs=[])∨∃r n ex,v=.slice r 0 n n ex s/\B<=r/\H[r]? =some (.row cs false)/\cs.length=n*s
def Keep (B:Nat)(H H':Heap):Prop:=(∀i,i<B->H'[i]? =H[i]?)/\H.length<=H'.length
theorem Keep.refl (B:Nat)(H:Heap):Keep B H H:=⟨fun _ _=>rfl,Nat.le_refl _⟩
theorem Keep.trans {B:Nat}{H H' H'':Heap}(h:Keep B H H')(k:Keep B H' H''):Keep B H H'':=⟨fun i hi=>(k.1 i hi).trans (h.1 i hi),Nat.le_trans h.2 k.2⟩
theorem Keep.mono {C:Nat}{H':Heap}(h:Keep B H H')(hc:C<=B):Keep C H H':=⟨fun i hi=>h.1 i (by omega),h.2⟩
theorem Keep.push (H X:Heap)(h:B<=H.length):Keep B H (H++X):=⟨fun i hi=>List.getElem?_append_left (by omega),by simp⟩
theorem Keep.set {B:Nat}(H:Heap){r:Nat}(o:IObj)(h:B<=r):Keep B H (H.set r o):=⟨fun i hi=>List.getElem?_set_ne (by omega),by simp⟩
theorem Keep.get {H':Heap}(h:Keep B H H'){i:Nat}{o:IObj}(hi:i<B)(e:H[i]? =some o):H'[i]? =some o:=(h.1 i hi).trans e
theorem Buf.len (h:Buf B s H v cs)(hs:0<s):∃n,xlen v=some n/\cs.length=n*s/\llen H .slice v=some (.int .i64 n):=by
 rcases h with⟨rfl,rfl⟩ | ⟨r,n,ex,rfl,h1,h2,h3⟩
 ·exact⟨0,rfl,by simp,rfl⟩
 ·exact⟨n,rfl,h3,rfl⟩
theorem Buf.cells (h:Buf B s H v cs){n:Nat}(hn:xlen v=some n):lsl H s v n=some cs:=by
 rcases h with⟨rfl,rfl⟩ | ⟨r,k,ex,rfl,h1,h2,h3⟩
 ·simp only[xlen,Option.some.injEq]at hn;subst hn;rfl
 ·simp only[xlen,Option.some.injEq]at hn;subst hn;simp only[lsl,Nat.le_refl,if_true];split
  ·rename_i e;subst e;simp at h3;subst h3;rfl
  ·simp only[irow,h2,Nat.zero_add,h3,Nat.le_refl,if_true,List.drop_zero];rw[List.take_of_length_le (by omega)]
theorem lfresh_eq {old:List IV}{k:Nat}(h1:k*b<=140737488355328)(h2:(old++new).length=k*s):lfresh s b H old new k=some (.val (.slice H.length 0 k k false s),H++[.row (old++new) false]):=by
 unfold lfresh;rw[if_pos ⟨h1,h2⟩]
theorem app_buf {x:IV}{k:Nat}(h:Buf B s H v cs)(hB:B<=H.length)(hs:0<s)(hx:xlen x=some k)(hc:lxcells H s x k=some new)(hl:new.length=k*s)(h1:new.all IV.one=true)(hb:(cs.length+new.length)*b<=140737488355328) :
  ∃v' H',lapp H s b v x=some (v',H')/\Buf B s H' v' (cs++new)/\Keep B H H':=by
 unfold lapp lappend;rw[hx];simp only[Option.bind_some];by_cases h0:k=0
 ·subst h0;have hnew:new=[]:=by simp at hl;exact hl
  subst hnew;simp only[if_true,List.append_nil];rcases h with⟨rfl,rfl⟩ | ⟨r,n,ex,rfl,g1,g2,g3⟩
  ·exact⟨_,_,rfl,.inl ⟨rfl,rfl⟩,Keep.refl _ _⟩
  ·exact⟨_,_,rfl,.inr ⟨r,n,ex,rfl,g1,g2,g3⟩,Keep.refl _ _⟩
 ·rw[if_neg h0,hc];simp only[Option.bind_some];rw[if_pos ⟨hl,h1⟩];rcases h with⟨rfl,rfl⟩ | ⟨r,n,ex,rfl,g1,g2,g3⟩
  ·have hk:k*b<=140737488355328:=by
    refine Nat.le_trans (Nat.mul_le_mul_right b ?_) hb;simp only[List.length_nil,Nat.zero_add,hl];exact Nat.le_mul_of_pos_right k hs
   simp only[lfresh_eq (old:=[]) hk (by simpa using hl)];exact⟨_,_,rfl,.inr ⟨H.length,k,false,rfl,hB,by simp,by simpa using hl⟩,Keep.push H _ hB⟩
  ·have hold:lsl H s (.slice r 0 n n ex s) n=some cs:=Buf.cells (B:=B) (.inr ⟨r,n,ex,rfl,g1,g2,g3⟩) rfl;have hlen:(cs++new).length=(n+k)*s:=by simp only[List.length_append,g3,hl,Nat.add_mul]
   have hk:(n+k)*b<=140737488355328:=by
    refine Nat.le_trans (Nat.mul_le_mul_right b ?_) hb;rw[g3,hl,←Nat.add_mul];exact Nat.le_mul_of_pos_right (n+k) hs
   simp only;rw[if_neg (by omega),hold];simp only[Option.bind_some]
   cases ex with
   | true =>
    simp only[if_true,lfresh_eq (H:=H) hk hlen];exact⟨_,_,rfl,.inr ⟨H.length,n+k,false,rfl,hB,by simp,hlen⟩,Keep.push H _ hB⟩
   | false =>
    simp only[Bool.false_eq_true,if_false,g2,if_true,lfresh_eq (H:=H.set r .dead) hk hlen];refine⟨_,_,rfl,.inr ⟨(H.set r .dead).length,n+k,false,rfl,by simpa using hB,by simp,hlen⟩,?_⟩;exact(Keep.set H .dead g1).trans (Keep.push _ _ (by simpa using hB))
def bytes (l:List UInt8):List IV:=l.map fun b=>.int .u8 b.toNat
theorem bytes_one (l:List UInt8):(bytes l).all IV.one=true:=by simp[bytes,IV.one]
theorem app_own {C:Nat}{x:IV}(h:Buf B s H v cs)(hB:B<=H.length)(hs:0<s)(hx:Buf C s H x new)(h1:new.all IV.one=true)(hb:(cs.length+new.length)*b<=140737488355328):∃v' H',lapp H s b v x=some (v',H')/\Buf B s H' v' (cs++new)/\Keep B H H':=by
 obtain⟨n,h2,h3,_⟩:=hx.len hs;refine app_buf h hB hs h2 ?_ h3 h1 hb;have:lxcells H s x n=lsl H s x n:=by
  rcases hx with⟨rfl,_⟩ | ⟨r,k,ex,rfl,_⟩<;>rfl
 rw[this];exact hx.cells h2
end Go.Shade
namespace Go.Shade
def Wp {α:Type}(x:Option α)(Q:α->Prop):Prop:=∃a,x=some a/\Q a
section
variable {α β : Type} {Q : β -> Prop}
theorem Wp.ret {a:β}(h:Q a):Wp (some a) Q:=⟨a,rfl,h⟩
theorem Wp.ob {x:Option α}{f:α->Option β}(h:Wp x fun a=>Wp (f a) Q):Wp (Shade.ob x f) Q:=by
 obtain⟨a,rfl,h2⟩:=h;exact h2
theorem Wp.of {x:Option α}{f:α->Option β}{a:α}(h:x=some a)(k:Wp (f a) Q):Wp (Shade.ob x f) Q:=by
 subst h;exact k
theorem Wp.call {x:Option α}{f:α->Option β}{R:α->Prop}(h:Wp x R)(k:∀a,R a->Wp (f a) Q):Wp (Shade.ob x f) Q:=by
 obtain⟨a,rfl,h2⟩:=h;exact k a h2
theorem Wp.mono {x:Option β}{R:β->Prop}(h:Wp x R)(k:∀a,R a->Q a):Wp x Q:=by
 obtain⟨a,rfl,h2⟩:=h;exact⟨a,rfl,k a h2⟩
theorem Wp.dec {p:Prop}[Decidable p]{x y:Option β}(h1:p->Wp x Q)(h2:¬p->Wp y Q):Wp (cnd (.bool (decide p)) x y) Q:=by
 by_cases hp:p
 ·rw[decide_eq_true hp,cnd_true];exact h1 hp
 ·rw[decide_eq_false hp,cnd_false];exact h2 hp
theorem Wp.ndec {p:Prop}[Decidable p]{x y:Option β}(h1:¬p->Wp x Q)(h2:p->Wp y Q):Wp (cnd (.bool (!decide p)) x y) Q:=by
 by_cases hp:p
 ·rw[decide_eq_true hp,Bool.not_true,cnd_false];exact h2 hp
 ·rw[decide_eq_false hp,Bool.not_false,cnd_true];exact h1 hp
end
theorem wrap_i64 {x:Int}(h1: -9223372036854775808<=x)(h2:x<9223372036854775808):IntKind.wrap .i64 x=x:=by
 have h:IntKind.wrap .i64 x=if x % 18446744073709551616 ≥ 9223372036854775808 then x % 18446744073709551616 - 18446744073709551616 else x % 18446744073709551616:=by
  unfold IntKind.wrap;simp[IntKind.bits,IntKind.signed]
 rw[h];split<;>omega
end Go.Shade
namespace Go.Shade
def mergeNewS (cal:CB)(O:Oracle)(N:Nat)(v0 v1 v2 v3:IV)(H:Heap):OH :=
 ob (leqv false (leq .ptr v0 .nilPtr)) fun t1 =>ob (gq (isB t1 false) (some v1)) fun t2 =>ob (gq (isB t1 false) (leqv false (leq .ptr t2 .nilPtr))) fun t3 =>ob (lpick t1 (.bool true) t3) fun t4 =>cnd t4
 (some (.nilPtr,H))
 (ob (lbld [.nilPtr,.nilPtr,(.int .i64 0),(.int .i64 0)] [(0,1,v0),(1,1,v1),(2,1,v2),(3,1,v3)]) fun t5 =>ob (lbox H t5) fun r6 =>some (r6.1,r6.2))
def MvGetS (cal:CB)(O:Oracle)(N:Nat)(f0 f1 f2 f3 f4:FuncId)(v0 v1 v2:IV)(H:Heap):OH :=
 ob (lbox H v1) fun r1 =>ob (lzbox r1.2 (.agg [(.int .i64 0),(.int .i64 0)])) fun r2 =>ob (lloadn r2.2 2 r1.1) fun t3 =>ob (O f0 [v0,t3] r2.2) fun r4 =>ob (lbin .neq r4.1 (.int .i64 0)) fun t5 =>cnd t5
 (ob (lbld [(.int .i64 0),(.int .i64 0)] []) fun t6 =>ob (lstV r4.2 2 r2.1 t6) fun r7 =>ob (lloadn r7.2 2 r2.1) fun t8 =>some ((.tuple [t8,r4.1]),r7.2))
 (ob (lloadn r4.2 2 r1.1) fun t9 =>ob (O f1 [v0,t9,v2] r4.2) fun r10 =>jn (fun(H30:Heap) =>ob (lchk v0) fun t31 =>ob (loff t31 1) fun t32 =>ob (lload1 H30 t32) fun t33 =>ob (O f3 [t33,r10.1] H30) fun r34 =>ob (lbin .eql r34.1 (.int .i64 0)) fun t35 =>ob (gq (isB t35 false) (some v0)) fun t36 =>ob (gq (isB t35 false) (lchk t36)) fun t37 =>ob (gq (isB t35 false) (loff t37 1)) fun t38 =>ob (gq (isB t35 false) (lload1 r34.2 t38)) fun t39 =>ob (gq (isB t35 false) (some r10.1)) fun t40 =>ob (ge (isB t35 false) r34.2 (O f3 [t39,t40] r34.2)) fun r41 =>ob (gq (isB t35 false) (lbin .eql r41.1 (.int .i64 4))) fun t42 =>ob (lpick t35 (.bool true) t42) fun t43 =>cnd t43
 (ob (lbld [(.int .i64 0),(.int .i64 0)] []) fun t44 =>ob (lstV r41.2 2 r2.1 t44) fun r45 =>ob (lloadn r45.2 2 r2.1) fun t46 =>some ((.tuple [t46,(.int .i64 2)]),r45.2))
 (ob (lbld [(.int .i64 0),(.int .i64 0)] [(1,1,r10.1)]) fun t47 =>ob (lstV r41.2 2 r2.1 t47) fun r48 =>ob (lloadn r48.2 2 r2.1) fun t49 =>some ((.tuple [t49,(.int .i64 0)]),r48.2))) fun J11 =>ob (loff r1.1 0) fun t50 =>ob (lload1 r10.2 t50) fun t51 =>ob (lbin .neq t51 (.int .i64 0)) fun t52 =>cnd t52
 (ob (lchk v0) fun t53 =>ob (loff t53 0) fun t54 =>ob (lload1 r10.2 t54) fun t55 =>ob (loff r1.1 0) fun t56 =>ob (lload1 r10.2 t56) fun t57 =>ob (O f2 [t55,t57,v2] r10.2) fun r58 =>ob (iextract r58.1 0) fun t59 =>ob (iextract r58.1 1) fun t60 =>ob (lbin .eql t60 (.int .i64 0)) fun t61 =>cnd t61
 (ob (lchk v0) fun t62 =>ob (loff t62 0) fun t63 =>ob (lload1 r58.2 t63) fun t64 =>ob (O f3 [t64,t59] r58.2) fun r65 =>ob (lbin .eql r65.1 (.int .i64 4)) fun t66 =>cnd t66
 (ob (lbld [(.int .i64 0),(.int .i64 0)] []) fun t67 =>ob (lstV r65.2 2 r2.1 t67) fun r68 =>ob (lloadn r68.2 2 r2.1) fun t69 =>some ((.tuple [t69,(.int .i64 2)]),r68.2))
 (ob (lchk v0) fun t70 =>ob (loff t70 0) fun t71 =>ob (lload1 r65.2 t71) fun t72 =>ob (O f3 [t72,t59] r65.2) fun r73 =>ob (lbin .eql r73.1 (.int .i64 2)) fun t74 =>ob (gq (isB t74 true) (some v0)) fun t75 =>ob (gq (isB t74 true) (some t59)) fun t76 =>ob (ge (isB t74 true) r73.2 (O f4 [t75,t76] r73.2)) fun r77 =>ob (gq (isB t74 true) (iun .not r77.1)) fun t78 =>ob (lpick t74 t78 (.bool false)) fun t79 =>ob (gq (isB t79 true) (some v0)) fun t80 =>ob (gq (isB t79 true) (lchk t80)) fun t81 =>ob (gq (isB t79 true) (loff t81 1)) fun t82 =>ob (gq (isB t79 true) (lload1 r77.2 t82)) fun t83 =>ob (gq (isB t79 true) (some r10.1)) fun t84 =>ob (ge (isB t79 true) r77.2 (O f3 [t83,t84] r77.2)) fun r85 =>ob (gq (isB t79 true) (lbin .eql r85.1 (.int .i64 2))) fun t86 =>ob (lpick t79 t86 (.bool false)) fun t87 =>cnd t87
 (ob (lbld [(.int .i64 0),(.int .i64 0)] [(0,1,t59),(1,1,r10.1)]) fun t88 =>ob (lstV r85.2 2 r2.1 t88) fun r89 =>ob (lloadn r89.2 2 r2.1) fun t90 =>some ((.tuple [t90,(.int .i64 0)]),r89.2))
 (ob (lbld [(.int .i64 0),(.int .i64 0)] [(0,1,t59)]) fun t91 =>ob (lstV r85.2 2 r2.1 t91) fun r92 =>ob (lloadn r92.2 2 r2.1) fun t93 =>some ((.tuple [t93,(.int .i64 0)]),r92.2))))
 (J11 r58.2))
 (J11 r10.2))
def MvKindS (cal:CB)(O:Oracle)(N:Nat)(f0 f1:FuncId)(v0 v1:IV)(H:Heap):OH :=
 ob (lbox H v1) fun r1 =>ob (lloadn r1.2 2 r1.1) fun t2 =>ob (O f0 [v0,t2] r1.2) fun r3 =>ob (iextract r3.1 0) fun t4 =>ob (iextract r3.1 1) fun t5 =>ob (O f1 [t4,t5] r3.2) fun r6 =>ob (lbin .neq r6.1 (.int .i64 4)) fun t7 =>cnd t7
 (some (r6.1,r6.2))
 (some ((.int .i64 0),r6.2))
def MvOpaqueS (cal:CB)(O:Oracle)(N:Nat)(f0:FuncId)(v0 v1:IV)(H:Heap):OH :=
 ob (lchk v0) fun t1 =>ob (loff t1 0) fun t2 =>ob (lload1 H t2) fun t3 =>ob (O f0 [t3,v1] H) fun r4 =>ob (lbin .and r4.1 (.int .i64 1)) fun t5 =>ob (lbin .neq t5 (.int .i64 0)) fun t6 =>some (t6,r4.2)
def MvDirS (cal:CB)(O:Oracle)(N:Nat)(f0:FuncId)(v0 v1:IV)(H:Heap):OH :=
 ob (lbox H v1) fun r1 =>ob (lloadn r1.2 2 r1.1) fun t2 =>ob (O f0 [v0,t2] r1.2) fun r3 =>ob (lbin .eql r3.1 (.int .i64 0)) fun t4 =>cnd t4
 (some ((.int .i64 2),r3.2))
 (ob (lbin .eql r3.1 (.int .i64 2)) fun t5 =>cnd t5
 (some ((.int .i64 0),r3.2))
 (some ((.int .i64 20),r3.2)))
def MvBelowS (cal:CB)(O:Oracle)(N:Nat)(f0 f1:FuncId)(v0 v1 v2:IV)(H:Heap):OH :=
 ob (lbox H v1) fun r1 =>ob (loff r1.1 1) fun t2 =>ob (lload1 r1.2 t2) fun t3 =>ob (lbin .eql t3 (.int .i64 0)) fun t4 =>ob (gq (isB t4 false) (loff r1.1 0)) fun t5 =>ob (gq (isB t4 false) (lload1 r1.2 t5)) fun t6 =>ob (gq (isB t4 false) (lbin .neq t6 (.int .i64 0))) fun t7 =>ob (gq (isB t4 false) (some t7)) fun t8 =>ob (gq (isB t8 true) (some v0)) fun t9 =>ob (gq (isB t8 true) (loff r1.1 0)) fun t10 =>ob (gq (isB t8 true) (lload1 r1.2 t10)) fun t11 =>ob (ge (isB t8 true) r1.2 (O f0 [t9,t11] r1.2)) fun r12 =>ob (gq (isB t4 false) (lpick t8 r12.1 (.bool false))) fun t13 =>ob (lpick t4 (.bool true) t13) fun t14 =>cnd t14
 (some ((.int .i64 0),r12.2))
 (ob (lchk v0) fun t15 =>ob (loff t15 1) fun t16 =>ob (lload1 r12.2 t16) fun t17 =>ob (loff r1.1 1) fun t18 =>ob (lload1 r12.2 t18) fun t19 =>ob (O f1 [t17,t19,v2] r12.2) fun r20 =>ob (iextract r20.1 0) fun t21 =>ob (iextract r20.1 1) fun t22 =>some (t21,r20.2))
def MvSideS (cal:CB)(O:Oracle)(N:Nat)(v0 v1:IV)(H:Heap):OH :=
 ob (lbox H v1) fun r1 =>ob (loff r1.1 0) fun t2 =>ob (lload1 r1.2 t2) fun t3 =>ob (lbin .neq t3 (.int .i64 0)) fun t4 =>cnd t4
 (ob (lchk v0) fun t5 =>ob (loff t5 0) fun t6 =>ob (lload1 r1.2 t6) fun t7 =>ob (loff r1.1 0) fun t8 =>ob (lload1 r1.2 t8) fun t9 =>some ((.tuple [t7,t9]),r1.2))
 (ob (lchk v0) fun t10 =>ob (loff t10 1) fun t11 =>ob (lload1 r1.2 t11) fun t12 =>ob (loff r1.1 1) fun t13 =>ob (lload1 r1.2 t13) fun t14 =>some ((.tuple [t12,t14]),r1.2))
def X5K4 :LC:=.reg [ qO 2 (.mv (.k .nilPtr)),qO 3 (.mv (.k (.bool false)))]
def X5K0 (f0 f1 f2 f3 f4 f5 f6 f7 f8 f9 f10 f11:FuncId):LC:=.seq (.seq (.reg [ qM 28 5,qM 29 0,qO 30 (.len .slice (.t 29)),qO 31 (.bin .lss (.t 28) (.t 30)),qM 32 31,⟨(some 33),(.mv (.t 5)),(some (32,true))⟩,⟨(some 34),(.bin .lss (.t 33) (k6 80)),(some (32,true))⟩,qO 35 (.pick (.t 32) (.t 34) (.k (.bool false)))]) (.cond (.t 35) .skip (.exit 0))) (.seq (.block 1 (.seq (.reg [ qM 38 0,qM 39 5,qO 40 (.ix 7 (.t 38) (.t 39)),qO 41 (.ldn 7 (.t 40)),qO 6 (.zbox (.agg [(.bool false),(.int .i64 0),(.int .i64 0),(.int .i64 0),(.int .i64 0),(.str []),(.str [])])),⟨none,(.st 7 (.t 6) (.t 41)),none⟩]) (.seq (.seq (.reg [ qO 42 (.off (.t 6) 6),qO 43 (.ld1 (.t 42)),qO 44 (.len .str (.t 43)),qO 45 (.bin .gtr (.t 44) (k6 2048))]) (.cond (.t 45) (.seq X5K4 .ret) .skip)) (.seq (.drw [ qM 46 4,qO 47 (.chk (.t 46)),qO 48 (.off (.t 47) 0),qO 49 (.ld1 (.t 48)),qM 50 4,qO 51 (.chk (.t 50)),qO 52 (.off (.t 51) 2),qO 53 (.ld1 (.t 52)),qM 7 49,qM 8 53] []) (.seq (.seq (.reg [ qO 54 (.off (.t 6) 0),qO 55 (.ld1 (.t 54))]) (.cond (.t 55) (.drw [ qM 56 4,qO 57 (.chk (.t 56)),qO 58 (.off (.t 57) 1),qO 59 (.ld1 (.t 58)),qM 60 4,qO 61 (.chk (.t 60)),qO 62 (.off (.t 61) 3),qO 63 (.ld1 (.t 62)),qM 7 59,qM 8 63] []) .skip)) (.seq (.reg [ qO 64 (.off (.t 6) 1),qO 65 (.ld1 (.t 64))]) (.block 2 (.seq (.reg [ qO 67 (.bin .eql (.t 65) (k6 0)),qM 66 67]) (.cond (.t 66) (.seq (.reg [ qM 68 7,qO 69 (.off (.t 6) 2),qO 70 (.ld1 (.t 69)),qO 71 (.off (.t 6) 5),qO 72 (.ld1 (.t 71)),qO 73 (.off (.t 6) 4),qO 74 (.ld1 (.t 73)),qO 75 (.off (.t 6) 6),qO 76 (.ld1 (.t 75)),qO 77 (.callF f0 [(.t 68),(.t 70),(.t 72),(.t 74),(.t 76)])]) (.reg [ qM 78 8,qO 79 (.off (.t 6) 2),qO 80 (.ld1 (.t 79)),qO 81 (.off (.t 6) 5),qO 82 (.ld1 (.t 81)),qO 83 (.off (.t 6) 4),qO 84 (.ld1 (.t 83)),qO 85 (.off (.t 6) 6),qO 86 (.ld1 (.t 85)),qO 87 (.callF f1 [(.t 78),(.t 80),(.t 82),(.t 84),(.t 86)])])) (.seq (.reg [ qO 89 (.bin .eql (.t 65) (k6 1)),qM 88 89]) (.cond (.t 88) (.seq (.reg [ qM 90 7,qO 91 (.off (.t 6) 2),qO 92 (.ld1 (.t 91)),qO 93 (.off (.t 6) 5),qO 94 (.ld1 (.t 93)),qO 95 (.off (.t 6) 3),qO 96 (.ld1 (.t 95)),qO 97 (.callF f2 [(.t 90),(.t 92),(.t 94),(.t 96)])]) (.reg [ qM 98 8,qO 99 (.off (.t 6) 2),qO 100 (.ld1 (.t 99)),qO 101 (.off (.t 6) 5),qO 102 (.ld1 (.t 101)),qO 103 (.off (.t 6) 3),qO 104 (.ld1 (.t 103)),qO 105 (.callF f3 [(.t 98),(.t 100),(.t 102),(.t 104)])])) (.seq (.reg [ qO 107 (.bin .eql (.t 65) (k6 2)),qM 106 107]) (.cond (.t 106) (.seq (.reg [ qM 108 7,qO 109 (.off (.t 6) 2),qO 110 (.ld1 (.t 109)),qO 111 (.off (.t 6) 5),qO 112 (.ld1 (.t 111)),qO 113 (.callF f4 [(.t 108),(.t 110),(.t 112)])]) (.reg [ qM 114 8,qO 115 (.off (.t 6) 2),qO 116 (.ld1 (.t 115)),qO 117 (.off (.t 6) 5),qO 118 (.ld1 (.t 117)),qO 119 (.callF f5 [(.t 114),(.t 116),(.t 118)])])) (.seq (.reg [ qO 121 (.bin .eql (.t 65) (k6 3)),qM 120 121]) (.cond (.t 120) (.seq (.reg [ qM 122 7,qO 123 (.off (.t 6) 2),qO 124 (.ld1 (.t 123)),qO 125 (.off (.t 6) 4),qO 126 (.ld1 (.t 125)),qO 127 (.callF f6 [(.t 122),(.t 124),(.t 126)])]) (.reg [ qM 128 8,qO 129 (.off (.t 6) 2),qO 130 (.ld1 (.t 129)),qO 131 (.off (.t 6) 4),qO 132 (.ld1 (.t 131)),qO 133 (.callF f7 [(.t 128),(.t 130),(.t 132)])])) (.seq (.reg [ qO 135 (.bin .eql (.t 65) (k6 4)),qM 134 135]) (.cond (.t 134) (.seq (.reg [ qM 136 7,qO 137 (.off (.t 6) 2),qO 138 (.ld1 (.t 137)),qO 139 (.off (.t 6) 6),qO 140 (.ld1 (.t 139)),qO 141 (.s2b (.t 140)),qO 142 (.callF f8 [(.t 136),(.t 138),(k6 0),(.t 141)])]) (.reg [ qM 143 8,qO 144 (.off (.t 6) 2),qO 145 (.ld1 (.t 144)),qO 146 (.off (.t 6) 6),qO 147 (.ld1 (.t 146)),qO 148 (.s2b (.t 147)),qO 149 (.callF f9 [(.t 143),(.t 145),(k6 0),(.t 148)])])) (.seq (.reg [ qO 151 (.bin .eql (.t 65) (k6 5)),qM 150 151]) (.cond (.t 150) (.seq (.reg [ qM 152 7,qO 153 (.off (.t 6) 2),qO 154 (.ld1 (.t 153)),qO 155 (.off (.t 6) 5),qO 156 (.ld1 (.t 155)),qO 157 (.off (.t 6) 3),qO 158 (.ld1 (.t 157)),qO 159 (.off (.t 6) 6),qO 160 (.ld1 (.t 159)),qO 161 (.callF f10 [(.t 152),(.t 154),(.t 156),(.t 158),(.t 160)])]) (.reg [ qM 162 8,qO 163 (.off (.t 6) 2),qO 164 (.ld1 (.t 163)),qO 165 (.off (.t 6) 5),qO 166 (.ld1 (.t 165)),qO 167 (.off (.t 6) 3),qO 168 (.ld1 (.t 167)),qO 169 (.off (.t 6) 6),qO 170 (.ld1 (.t 169)),qO 171 (.callF f11 [(.t 162),(.t 164),(.t 166),(.t 168),(.t 170)])])) .skip))))))))))))))))))) (.reg [ qM 36 5,qO 37 (.bin .add (.t 36) (k6 1)),qM 5 37]))
def veneerlaw10BuildC0 (f0 f1 f2 f3 f4 f5 f6 f7 f8 f9 f10 f11 f12 f13:FuncId):LC:=.loop (X5K0 f2 f3 f4 f5 f6 f7 f8 f9 f10 f11 f12 f13)
def veneerlaw10BuildC1 (f0 f1 f2 f3 f4 f5 f6 f7 f8 f9 f10 f11 f12 f13:FuncId):LC:=.block 0 (veneerlaw10BuildC0 f0 f1 f2 f3 f4 f5 f6 f7 f8 f9 f10 f11 f12 f13)
def veneerlaw10BuildC2 (f0 f1 f2 f3 f4 f5 f6 f7 f8 f9 f10 f11 f12 f13:FuncId):LC:=.seq (.reg [ qO 5 (.mv (k6 0))]) (veneerlaw10BuildC1 f0 f1 f2 f3 f4 f5 f6 f7 f8 f9 f10 f11 f12 f13)
def X5K3 :LC:=.seq (.reg [ qM 172 4,qM 2 172,qO 3 (.mv (.k (.bool true)))]) .ret
def veneerlaw10BuildC3 (f0 f1 f2 f3 f4 f5 f6 f7 f8 f9 f10 f11 f12 f13:FuncId):LC:=.seq (veneerlaw10BuildC2 f0 f1 f2 f3 f4 f5 f6 f7 f8 f9 f10 f11 f12 f13) X5K3
def X5K1 :LC:=.seq (.reg [ qM 15 4,qO 16 (.chk (.t 15)),qO 17 (.off (.t 16) 0),qO 18 (.ld1 (.t 17)),qO 19 (.eqv false .ptr (.t 18) (.k .nilPtr)),qM 20 19,⟨(some 21),(.mv (.t 4)),(some (20,false))⟩,⟨(some 22),(.chk (.t 21)),(some (20,false))⟩,⟨(some 23),(.off (.t 22) 1),(some (20,false))⟩,⟨(some 24),(.ld1 (.t 23)),(some (20,false))⟩,⟨(some 25),(.eqv false .ptr (.t 24) (.k .nilPtr)),(some (20,false))⟩,qO 26 (.pick (.t 20) (.k (.bool true)) (.t 25))]) (.cond (.t 26) (.seq (.reg [ qM 27 4,qM 2 27,qO 3 (.mv (.k (.bool false)))]) .ret) .skip)
def veneerlaw10BuildC4 (f0 f1 f2 f3 f4 f5 f6 f7 f8 f9 f10 f11 f12 f13:FuncId):LC:=.seq X5K1 (veneerlaw10BuildC3 f0 f1 f2 f3 f4 f5 f6 f7 f8 f9 f10 f11 f12 f13)
def X5K2 (f0 f1:FuncId):LC:=.reg [ qO 9 (.callF f0 [(k6 500)]),qO 10 (.callF f0 [(k6 500)]),qO 11 (.callF f1 [(k6 500)]),qO 12 (.callF f1 [(k6 500)]),qO 13 (.bld [.nilPtr,.nilPtr,.nilPtr,.nilPtr] [(0,(1,(.t 9))),(1,(1,(.t 10))),(2,(1,(.t 11))),(3,(1,(.t 12)))]),qO 14 (.box (.t 13)),qM 4 14]
def veneerlaw10BuildC5 (f0 f1 f2 f3 f4 f5 f6 f7 f8 f9 f10 f11 f12 f13:FuncId):LC:=.seq (X5K2 f0 f1) (veneerlaw10BuildC4 f0 f1 f2 f3 f4 f5 f6 f7 f8 f9 f10 f11 f12 f13)
def veneerlaw10BuildC6 (f0 f1 f2 f3 f4 f5 f6 f7 f8 f9 f10 f11 f12 f13:FuncId):LC:=.seq X5K4 (veneerlaw10BuildC5 f0 f1 f2 f3 f4 f5 f6 f7 f8 f9 f10 f11 f12 f13)
def veneerlaw10BuildC0S (cal:CB)(O:Oracle)(N:Nat)(f0 f1 f2 f3 f4 f5 f6 f7 f8 f9 f10 f11 f12 f13:FuncId)(gE0:IV->Heap->OH):Nat->IV->IV->IV->Heap->OH
 | 0,_,_,_,_=>none
 | n+1,v0,v4,v5,H =>ob (llen H .slice v0) fun t1 =>ob (lbin .lss v5 t1) fun t2 =>ob (gq (isB t2 true) (some v5)) fun t3 =>ob (gq (isB t2 true) (lbin .lss t3 (.int .i64 80))) fun t4 =>ob (lpick t2 t4 (.bool false)) fun t5 =>cnd t5
  (ob (lix 7 v0 v5) fun t6 =>ob (lloadn H 7 t6) fun t7 =>ob (lzbox H (.agg [(.bool false),(.int .i64 0),(.int .i64 0),(.int .i64 0),(.int .i64 0),(.str []),(.str [])])) fun r8 =>ob (lstV r8.2 7 r8.1 t7) fun r9 =>ob (loff r8.1 6) fun t10 =>ob (lload1 r9.2 t10) fun t11 =>ob (llen r9.2 .str t11) fun t12 =>ob (lbin .gtr t12 (.int .i64 2048)) fun t13 =>cnd t13
  (some ((.tuple [.nilPtr,(.bool false)]),r9.2))
  (ob (lchk v4) fun t14 =>ob (loff t14 0) fun t15 =>ob (lload1 r9.2 t15) fun t16 =>ob (lchk v4) fun t17 =>ob (loff t17 2) fun t18 =>ob (lload1 r9.2 t18) fun t19 =>jn (fun(j21 j22:IV) =>ob (loff r8.1 1) fun t34 =>ob (lload1 r9.2 t34) fun t35 =>jn (fun(H143:Heap) =>ob (lbin .add v5 (.int .i64 1)) fun t144 =>
   veneerlaw10BuildC0S cal O N f0 f1 f2 f3 f4 f5 f6 f7 f8 f9 f10 f11 f12 f13 gE0 n v0 v4 t144 H143) fun J36 =>ob (lbin .eql t35 (.int .i64 0)) fun t145 =>cnd t145
  (ob (loff r8.1 2) fun t146 =>ob (lload1 r9.2 t146) fun t147 =>ob (loff r8.1 5) fun t148 =>ob (lload1 r9.2 t148) fun t149 =>ob (loff r8.1 4) fun t150 =>ob (lload1 r9.2 t150) fun t151 =>ob (loff r8.1 6) fun t152 =>ob (lload1 r9.2 t152) fun t153 =>ob (O f2 [j21,t147,t149,t151,t153] r9.2) fun r154 =>ob (loff r8.1 2) fun t155 =>ob (lload1 r154.2 t155) fun t156 =>ob (loff r8.1 5) fun t157 =>ob (lload1 r154.2 t157) fun t158 =>ob (loff r8.1 4) fun t159 =>ob (lload1 r154.2 t159) fun t160 =>ob (loff r8.1 6) fun t161 =>ob (lload1 r154.2 t161) fun t162 =>ob (O f3 [j22,t156,t158,t160,t162] r154.2) fun r163 =>J36 r163.2)
  (ob (lbin .eql t35 (.int .i64 1)) fun t164 =>cnd t164
  (ob (loff r8.1 2) fun t165 =>ob (lload1 r9.2 t165) fun t166 =>ob (loff r8.1 5) fun t167 =>ob (lload1 r9.2 t167) fun t168 =>ob (loff r8.1 3) fun t169 =>ob (lload1 r9.2 t169) fun t170 =>ob (O f4 [j21,t166,t168,t170] r9.2) fun r171 =>ob (loff r8.1 2) fun t172 =>ob (lload1 r171.2 t172) fun t173 =>ob (loff r8.1 5) fun t174 =>ob (lload1 r171.2 t174) fun t175 =>ob (loff r8.1 3) fun t176 =>ob (lload1 r171.2 t176) fun t177 =>ob (O f5 [j22,t173,t175,t177] r171.2) fun r178 =>J36 r178.2)
  (ob (lbin .eql t35 (.int .i64 2)) fun t179 =>cnd t179
  (ob (loff r8.1 2) fun t180 =>ob (lload1 r9.2 t180) fun t181 =>ob (loff r8.1 5) fun t182 =>ob (lload1 r9.2 t182) fun t183 =>ob (O f6 [j21,t181,t183] r9.2) fun r184 =>ob (loff r8.1 2) fun t185 =>ob (lload1 r184.2 t185) fun t186 =>ob (loff r8.1 5) fun t187 =>ob (lload1 r184.2 t187) fun t188 =>ob (O f7 [j22,t186,t188] r184.2) fun r189 =>J36 r189.2)
  (ob (lbin .eql t35 (.int .i64 3)) fun t190 =>cnd t190
  (ob (loff r8.1 2) fun t191 =>ob (lload1 r9.2 t191) fun t192 =>ob (loff r8.1 4) fun t193 =>ob (lload1 r9.2 t193) fun t194 =>ob (O f8 [j21,t192,t194] r9.2) fun r195 =>ob (loff r8.1 2) fun t196 =>ob (lload1 r195.2 t196) fun t197 =>ob (loff r8.1 4) fun t198 =>ob (lload1 r195.2 t198) fun t199 =>ob (O f9 [j22,t197,t199] r195.2) fun r200 =>J36 r200.2)
  (ob (lbin .eql t35 (.int .i64 4)) fun t201 =>cnd t201
  (ob (loff r8.1 2) fun t202 =>ob (lload1 r9.2 t202) fun t203 =>ob (loff r8.1 6) fun t204 =>ob (lload1 r9.2 t204) fun t205 =>ob (ls2b r9.2 t205) fun r206 =>ob (O f10 [j21,t203,(.int .i64 0),r206.1] r206.2) fun r207 =>ob (loff r8.1 2) fun t208 =>ob (lload1 r207.2 t208) fun t209 =>ob (loff r8.1 6) fun t210 =>ob (lload1 r207.2 t210) fun t211 =>ob (ls2b r207.2 t211) fun r212 =>ob (O f11 [j22,t209,(.int .i64 0),r212.1] r212.2) fun r213 =>J36 r213.2)
  (ob (lbin .eql t35 (.int .i64 5)) fun t214 =>cnd t214
  (ob (loff r8.1 2) fun t215 =>ob (lload1 r9.2 t215) fun t216 =>ob (loff r8.1 5) fun t217 =>ob (lload1 r9.2 t217) fun t218 =>ob (loff r8.1 3) fun t219 =>ob (lload1 r9.2 t219) fun t220 =>ob (loff r8.1 6) fun t221 =>ob (lload1 r9.2 t221) fun t222 =>ob (O f12 [j21,t216,t218,t220,t222] r9.2) fun r223 =>ob (loff r8.1 2) fun t224 =>ob (lload1 r223.2 t224) fun t225 =>ob (loff r8.1 5) fun t226 =>ob (lload1 r223.2 t226) fun t227 =>ob (loff r8.1 3) fun t228 =>ob (lload1 r223.2 t228) fun t229 =>ob (loff r8.1 6) fun t230 =>ob (lload1 r223.2 t230) fun t231 =>ob (O f13 [j22,t225,t227,t229,t231] r223.2) fun r232 =>J36 r232.2)
  (J36 r9.2))))))) fun J20 =>ob (loff r8.1 0) fun t233 =>ob (lload1 r9.2 t233) fun t234 =>cnd t234
  (ob (lchk v4) fun t235 =>ob (loff t235 1) fun t236 =>ob (lload1 r9.2 t236) fun t237 =>ob (lchk v4) fun t238 =>ob (loff t238 3) fun t239 =>ob (lload1 r9.2 t239) fun t240 =>J20 t237 t240)
  (J20 t16 t19)))
  (gE0 v4 H)
theorem veneerlaw10BuildC0Eq (cal:CB)(O:Oracle)(N:Nat)(f0 f1 f2 f3 f4 f5 f6 f7 f8 f9 f10 f11 f12 f13:FuncId){k:KT (IV×Heap)}(gE0:IV->Heap->OH)(hgE0:∀E H,k (.exit 0) E H=gE0 (lk E 4) H)(hR:∀E H,k .ret E H=resK [(.tmp 2),(.tmp 3)] [] E H):∀(n:Nat) (E:Sg) (H:Heap),itK (lxK cal O N (X5K0 f2 f3 f4 f5 f6 f7 f8 f9 f10 f11 f12 f13)) n E H k=veneerlaw10BuildC0S cal O N f0 f1 f2 f3 f4 f5 f6 f7 f8 f9 f10 f11 f12 f13 gE0 n (lk E 0) (lk E 4) (lk E 5) H:=by
 have hk:k=(kE 0 (fun E H=>gE0 (lk E 4) H) (kR (resK [(.tmp 2),(.tmp 3)] []) k)):=(kE_mk hgE0 (kR_mk hR rfl));intro n
 induction n with
 | zero=>intro E H;rfl
 | succ n ih =>
  intro E H;rw[itK_succ,seqK_mk (g:=fun E H=>veneerlaw10BuildC0S cal O N f0 f1 f2 f3 f4 f5 f6 f7 f8 f9 f10 f11 f12 f13 gE0 n (lk E 0) (lk E 4) (lk E 5) H) ih,hk];kernel_rfl
def veneerlaw10BuildC1S (cal:CB)(O:Oracle)(N:Nat)(f0 f1 f2 f3 f4 f5 f6 f7 f8 f9 f10 f11 f12 f13:FuncId)(gN:IV->Heap->OH)(v0 v4 v5:IV)(H:Heap):OH :=
  veneerlaw10BuildC0S cal O N f0 f1 f2 f3 f4 f5 f6 f7 f8 f9 f10 f11 f12 f13 (fun v4 H=>gN v4 H) N v0 v4 v5 H
theorem veneerlaw10BuildC1Eq (cal:CB)(O:Oracle)(N:Nat)(f0 f1 f2 f3 f4 f5 f6 f7 f8 f9 f10 f11 f12 f13:FuncId){k:KT (IV×Heap)}(gN:IV->Heap->OH)(hgN:∀E H,k .normal E H=gN (lk E 4) H)(hR:∀E H,k .ret E H=resK [(.tmp 2),(.tmp 3)] [] E H):∀(E:Sg) (H:Heap),lxK cal O N (veneerlaw10BuildC1 f0 f1 f2 f3 f4 f5 f6 f7 f8 f9 f10 f11 f12 f13) E H k=veneerlaw10BuildC1S cal O N f0 f1 f2 f3 f4 f5 f6 f7 f8 f9 f10 f11 f12 f13 gN (lk E 0) (lk E 4) (lk E 5) H:=by
 have hk:k=(kN (fun E H=>gN (lk E 4) H) (kR (resK [(.tmp 2),(.tmp 3)] []) k)):=(kN_mk hgN (kR_mk hR rfl));intro E H;rw[hk];show lxK cal O N (veneerlaw10BuildC0 f0 f1 f2 f3 f4 f5 f6 f7 f8 f9 f10 f11 f12 f13) E H (blockK 0 (kN (fun E H=>gN (lk E 4) H) (kR (resK [(.tmp 2),(.tmp 3)] []) k)))=_;exact veneerlaw10BuildC0Eq cal O N f0 f1 f2 f3 f4 f5 f6 f7 f8 f9 f10 f11 f12 f13 (k:=(blockK 0 (kN (fun E H=>gN (lk E 4) H) (kR (resK [(.tmp 2),(.tmp 3)] []) k)))) gN (fun _ _=>rfl) (fun _ _=>rfl) N E H
def veneerlaw10BuildC2S (cal:CB)(O:Oracle)(N:Nat)(f0 f1 f2 f3 f4 f5 f6 f7 f8 f9 f10 f11 f12 f13:FuncId)(gN:IV->Heap->OH)(v0 v4:IV)(H:Heap):OH :=
  veneerlaw10BuildC1S cal O N f0 f1 f2 f3 f4 f5 f6 f7 f8 f9 f10 f11 f12 f13 (fun v4 H=>gN v4 H) v0 v4 (.int .i64 0) H
theorem veneerlaw10BuildC2Eq (cal:CB)(O:Oracle)(N:Nat)(f0 f1 f2 f3 f4 f5 f6 f7 f8 f9 f10 f11 f12 f13:FuncId){k:KT (IV×Heap)}(gN:IV->Heap->OH)(hgN:∀E H,k .normal E H=gN (lk E 4) H)(hR:∀E H,k .ret E H=resK [(.tmp 2),(.tmp 3)] [] E H):∀(E:Sg) (H:Heap),lxK cal O N (veneerlaw10BuildC2 f0 f1 f2 f3 f4 f5 f6 f7 f8 f9 f10 f11 f12 f13) E H k=veneerlaw10BuildC2S cal O N f0 f1 f2 f3 f4 f5 f6 f7 f8 f9 f10 f11 f12 f13 gN (lk E 0) (lk E 4) H:=by
 have hk:k=(kN (fun E H=>gN (lk E 4) H) (kR (resK [(.tmp 2),(.tmp 3)] []) k)):=(kN_mk hgN (kR_mk hR rfl));intro E H;rw[hk];show lxK cal O N (.reg [ qO 5 (.mv (k6 0))]) E H (seqK (lxK cal O N (veneerlaw10BuildC1 f0 f1 f2 f3 f4 f5 f6 f7 f8 f9 f10 f11 f12 f13)) (kN (fun E H=>gN (lk E 4) H) (kR (resK [(.tmp 2),(.tmp 3)] []) k)))=_;rw[seqK_mk (g:=fun E H=>veneerlaw10BuildC1S cal O N f0 f1 f2 f3 f4 f5 f6 f7 f8 f9 f10 f11 f12 f13 gN (lk E 0) (lk E 4) (lk E 5) H) (veneerlaw10BuildC1Eq cal O N f0 f1 f2 f3 f4 f5 f6 f7 f8 f9 f10 f11 f12 f13 (k:=(kN (fun E H=>gN (lk E 4) H) (kR (resK [(.tmp 2),(.tmp 3)] []) k))) gN (fun _ _=>rfl) (fun _ _=>rfl))];kernel_rfl
def veneerlaw10BuildC3S (cal:CB)(O:Oracle)(N:Nat)(f0 f1 f2 f3 f4 f5 f6 f7 f8 f9 f10 f11 f12 f13:FuncId)(v0 v4:IV)(H:Heap):OH :=
  veneerlaw10BuildC2S cal O N f0 f1 f2 f3 f4 f5 f6 f7 f8 f9 f10 f11 f12 f13 (fun v4 H=>some ((.tuple [v4,(.bool true)]),H)) v0 v4 H
theorem veneerlaw10BuildC3Eq (cal:CB)(O:Oracle)(N:Nat)(f0 f1 f2 f3 f4 f5 f6 f7 f8 f9 f10 f11 f12 f13:FuncId){k:KT (IV×Heap)}(hR:∀E H,k .ret E H=resK [(.tmp 2),(.tmp 3)] [] E H):∀(E:Sg) (H:Heap),lxK cal O N (veneerlaw10BuildC3 f0 f1 f2 f3 f4 f5 f6 f7 f8 f9 f10 f11 f12 f13) E H k=veneerlaw10BuildC3S cal O N f0 f1 f2 f3 f4 f5 f6 f7 f8 f9 f10 f11 f12 f13 (lk E 0) (lk E 4) H:=by
 have hk:k=(kR (resK [(.tmp 2),(.tmp 3)] []) k):=(kR_mk hR rfl);intro E H;rw[hk];show lxK cal O N (veneerlaw10BuildC2 f0 f1 f2 f3 f4 f5 f6 f7 f8 f9 f10 f11 f12 f13) E H (seqK (lxK cal O N X5K3) (kR (resK [(.tmp 2),(.tmp 3)] []) k))=_;exact veneerlaw10BuildC2Eq cal O N f0 f1 f2 f3 f4 f5 f6 f7 f8 f9 f10 f11 f12 f13 (k:=(seqK (lxK cal O N X5K3) (kR (resK [(.tmp 2),(.tmp 3)] []) k))) (fun v4 H=>some ((.tuple [v4,(.bool true)]),H)) (fun _ _=>rfl) (fun _ _=>rfl) E H
def veneerlaw10BuildC4S (cal:CB)(O:Oracle)(N:Nat)(f0 f1 f2 f3 f4 f5 f6 f7 f8 f9 f10 f11 f12 f13:FuncId)(v0 v4:IV)(H:Heap):OH :=
 ob (lchk v4) fun t1 =>ob (loff t1 0) fun t2 =>ob (lload1 H t2) fun t3 =>ob (leqv false (leq .ptr t3 .nilPtr)) fun t4 =>ob (gq (isB t4 false) (some v4)) fun t5 =>ob (gq (isB t4 false) (lchk t5)) fun t6 =>ob (gq (isB t4 false) (loff t6 1)) fun t7 =>ob (gq (isB t4 false) (lload1 H t7)) fun t8 =>ob (gq (isB t4 false) (leqv false (leq .ptr t8 .nilPtr))) fun t9 =>ob (lpick t4 (.bool true) t9) fun t10 =>cnd t10
 (some ((.tuple [v4,(.bool false)]),H))
  (veneerlaw10BuildC3S cal O N f0 f1 f2 f3 f4 f5 f6 f7 f8 f9 f10 f11 f12 f13 v0 v4 H)
theorem veneerlaw10BuildC4Eq (cal:CB)(O:Oracle)(N:Nat)(f0 f1 f2 f3 f4 f5 f6 f7 f8 f9 f10 f11 f12 f13:FuncId){k:KT (IV×Heap)}(hR:∀E H,k .ret E H=resK [(.tmp 2),(.tmp 3)] [] E H):∀(E:Sg) (H:Heap),lxK cal O N (veneerlaw10BuildC4 f0 f1 f2 f3 f4 f5 f6 f7 f8 f9 f10 f11 f12 f13) E H k=veneerlaw10BuildC4S cal O N f0 f1 f2 f3 f4 f5 f6 f7 f8 f9 f10 f11 f12 f13 (lk E 0) (lk E 4) H:=by
 have hk:k=(kR (resK [(.tmp 2),(.tmp 3)] []) k):=(kR_mk hR rfl);intro E H;rw[hk];show lxK cal O N X5K1 E H (seqK (lxK cal O N (veneerlaw10BuildC3 f0 f1 f2 f3 f4 f5 f6 f7 f8 f9 f10 f11 f12 f13)) (kR (resK [(.tmp 2),(.tmp 3)] []) k))=_;rw[seqK_mk (g:=fun E H=>veneerlaw10BuildC3S cal O N f0 f1 f2 f3 f4 f5 f6 f7 f8 f9 f10 f11 f12 f13 (lk E 0) (lk E 4) H) (veneerlaw10BuildC3Eq cal O N f0 f1 f2 f3 f4 f5 f6 f7 f8 f9 f10 f11 f12 f13 (k:=(kR (resK [(.tmp 2),(.tmp 3)] []) k)) (fun _ _=>rfl))];kernel_rfl
def veneerlaw10BuildC5S (cal:CB)(O:Oracle)(N:Nat)(f0 f1 f2 f3 f4 f5 f6 f7 f8 f9 f10 f11 f12 f13:FuncId)(v0:IV)(H:Heap):OH :=
 ob (O f0 [(.int .i64 500)] H) fun r1 =>ob (O f0 [(.int .i64 500)] r1.2) fun r2 =>ob (O f1 [(.int .i64 500)] r2.2) fun r3 =>ob (O f1 [(.int .i64 500)] r3.2) fun r4 =>ob (lbld [.nilPtr,.nilPtr,.nilPtr,.nilPtr] [(0,1,r1.1),(1,1,r2.1),(2,1,r3.1),(3,1,r4.1)]) fun t5 =>ob (lbox r4.2 t5) fun r6 =>
  veneerlaw10BuildC4S cal O N f0 f1 f2 f3 f4 f5 f6 f7 f8 f9 f10 f11 f12 f13 v0 r6.1 r6.2
theorem veneerlaw10BuildC5Eq (cal:CB)(O:Oracle)(N:Nat)(f0 f1 f2 f3 f4 f5 f6 f7 f8 f9 f10 f11 f12 f13:FuncId){k:KT (IV×Heap)}(hR:∀E H,k .ret E H=resK [(.tmp 2),(.tmp 3)] [] E H):∀(E:Sg) (H:Heap),lxK cal O N (veneerlaw10BuildC5 f0 f1 f2 f3 f4 f5 f6 f7 f8 f9 f10 f11 f12 f13) E H k=veneerlaw10BuildC5S cal O N f0 f1 f2 f3 f4 f5 f6 f7 f8 f9 f10 f11 f12 f13 (lk E 0) H:=by
 have hk:k=(kR (resK [(.tmp 2),(.tmp 3)] []) k):=(kR_mk hR rfl);intro E H;rw[hk];show lxK cal O N (X5K2 f0 f1) E H (seqK (lxK cal O N (veneerlaw10BuildC4 f0 f1 f2 f3 f4 f5 f6 f7 f8 f9 f10 f11 f12 f13)) (kR (resK [(.tmp 2),(.tmp 3)] []) k))=_;rw[seqK_mk (g:=fun E H=>veneerlaw10BuildC4S cal O N f0 f1 f2 f3 f4 f5 f6 f7 f8 f9 f10 f11 f12 f13 (lk E 0) (lk E 4) H) (veneerlaw10BuildC4Eq cal O N f0 f1 f2 f3 f4 f5 f6 f7 f8 f9 f10 f11 f12 f13 (k:=(kR (resK [(.tmp 2),(.tmp 3)] []) k)) (fun _ _=>rfl))];kernel_rfl
def veneerlaw10BuildC6S (cal:CB)(O:Oracle)(N:Nat)(f0 f1 f2 f3 f4 f5 f6 f7 f8 f9 f10 f11 f12 f13:FuncId)(v0:IV)(H:Heap):OH :=
  veneerlaw10BuildC5S cal O N f0 f1 f2 f3 f4 f5 f6 f7 f8 f9 f10 f11 f12 f13 v0 H
theorem veneerlaw10BuildC6Eq (cal:CB)(O:Oracle)(N:Nat)(f0 f1 f2 f3 f4 f5 f6 f7 f8 f9 f10 f11 f12 f13:FuncId){k:KT (IV×Heap)}(hR:∀E H,k .ret E H=resK [(.tmp 2),(.tmp 3)] [] E H):∀(E:Sg) (H:Heap),lxK cal O N (veneerlaw10BuildC6 f0 f1 f2 f3 f4 f5 f6 f7 f8 f9 f10 f11 f12 f13) E H k=veneerlaw10BuildC6S cal O N f0 f1 f2 f3 f4 f5 f6 f7 f8 f9 f10 f11 f12 f13 (lk E 0) H:=by
 have hk:k=(kR (resK [(.tmp 2),(.tmp 3)] []) k):=(kR_mk hR rfl);intro E H;rw[hk];show lxK cal O N X5K4 E H (seqK (lxK cal O N (veneerlaw10BuildC5 f0 f1 f2 f3 f4 f5 f6 f7 f8 f9 f10 f11 f12 f13)) (kR (resK [(.tmp 2),(.tmp 3)] []) k))=_;rw[seqK_mk (g:=fun E H=>veneerlaw10BuildC5S cal O N f0 f1 f2 f3 f4 f5 f6 f7 f8 f9 f10 f11 f12 f13 (lk E 0) H) (veneerlaw10BuildC5Eq cal O N f0 f1 f2 f3 f4 f5 f6 f7 f8 f9 f10 f11 f12 f13 (k:=(kR (resK [(.tmp 2),(.tmp 3)] []) k)) (fun _ _=>rfl))];kernel_rfl
def veneerlaw10Build (f0 f1 f2 f3 f4 f5 f6 f7 f8 f9 f10 f11 f12 f13:FuncId):LFun:=⟨(veneerlaw10BuildC6 f0 f1 f2 f3 f4 f5 f6 f7 f8 f9 f10 f11 f12 f13),[(.tmp 2),(.tmp 3)],173⟩
def veneerlaw10BuildS (cal:CB)(O:Oracle)(N:Nat)(f0 f1 f2 f3 f4 f5 f6 f7 f8 f9 f10 f11 f12 f13:FuncId)(v0:IV)(H:Heap):OH :=
  veneerlaw10BuildC6S cal O N f0 f1 f2 f3 f4 f5 f6 f7 f8 f9 f10 f11 f12 f13 v0 H
theorem veneerlaw10BuildEq (cal:CB)(O:Oracle)(N:Nat)(f0 f1 f2 f3 f4 f5 f6 f7 f8 f9 f10 f11 f12 f13:FuncId)(v0:IV)(H:Heap):lrunK cal O N (veneerlaw10Build f0 f1 f2 f3 f4 f5 f6 f7 f8 f9 f10 f11 f12 f13) [v0] H=veneerlaw10BuildS cal O N f0 f1 f2 f3 f4 f5 f6 f7 f8 f9 f10 f11 f12 f13 v0 H:=by
 show lxK cal O N (veneerlaw10BuildC6 f0 f1 f2 f3 f4 f5 f6 f7 f8 f9 f10 f11 f12 f13) (initFrom 0 [v0]) H (endK [(.tmp 2),(.tmp 3)])=_;exact veneerlaw10BuildC6Eq cal O N f0 f1 f2 f3 f4 f5 f6 f7 f8 f9 f10 f11 f12 f13 (k:=(endK [(.tmp 2),(.tmp 3)])) (fun _ _=>rfl) (initFrom 0 [v0]) H
end Go.Shade
namespace Go.Shade
def queueNewS (cal:CB)(O:Oracle)(N:Nat)(H:Heap):OH :=
 ob (lbld [.nilSlice,(.int .i64 0)] []) fun t1 =>ob (lbox H t1) fun r2 =>some (r2.1,r2.2)
def QqPushS (cal:CB)(O:Oracle)(N:Nat)(f0:FuncId)(v0 v1 v2:IV)(H:Heap):OH :=
 ob (lchk v0) fun t1 =>ob (loff t1 0) fun t2 =>ob (some (.iface 196 t2)) fun t3 =>ob (lchk v0) fun t4 =>ob (loff t4 1) fun t5 =>ob (lload1 H t5) fun t6 =>ob (lbld [(.int .i64 0),(.int .i64 0),(.int .i64 0)] [(0,1,v1),(1,1,v2),(2,1,t6)]) fun t7 =>ob (some (.iface 198 t7)) fun t8 =>ob (O f0 [t3,t8] H) fun r9 =>ob (lchk v0) fun t10 =>ob (loff t10 1) fun t11 =>ob (lload1 r9.2 t11) fun t12 =>ob (lbin .add t12 (.int .i64 1)) fun t13 =>ob (lchk v0) fun t14 =>ob (loff t14 1) fun t15 =>ob (lstV r9.2 1 t15 t13) fun r16 =>some ((.tuple []),r16.2)
def QisLenS (cal:CB)(O:Oracle)(N:Nat)(v0:IV)(H:Heap):OH :=
 ob (llen H .slice v0) fun t1 =>some (t1,H)
def QisLessS (cal:CB)(O:Oracle)(N:Nat)(f0:FuncId)(v0 v1 v2:IV)(H:Heap):OH :=
 ob (lix 3 v0 v1) fun t1 =>ob (lloadn H 3 t1) fun t2 =>ob (lix 3 v0 v2) fun t3 =>ob (lloadn H 3 t3) fun t4 =>ob (O f0 [t2,t4] H) fun r5 =>some (r5.1,r5.2)
def QisSwapS (cal:CB)(O:Oracle)(N:Nat)(v0 v1 v2:IV)(H:Heap):OH :=
 ob (lix 3 v0 v2) fun t1 =>ob (lloadn H 3 t1) fun t2 =>ob (lix 3 v0 v1) fun t3 =>ob (lloadn H 3 t3) fun t4 =>ob (lix 3 v0 v1) fun t5 =>ob (lstV H 3 t5 t2) fun r6 =>ob (lix 3 v0 v2) fun t7 =>ob (lstV r6.2 3 t7 t4) fun r8 =>some ((.tuple []),r8.2)
def QisPushS (cal:CB)(O:Oracle)(N:Nat)(v0 v1:IV)(H:Heap):OH :=
 ob (lchk v0) fun t1 =>ob (lload1 H t1) fun t2 =>ob (lasrt 198 (.agg [(.int .i64 0),(.int .i64 0),(.int .i64 0)]) false v1) fun t3 =>ob (lbldS H 3 1 [(.int .i64 0),(.int .i64 0),(.int .i64 0)] [(0,t3)]) fun r4 =>ob (lapp r4.2 3 24 t2 r4.1) fun r5 =>ob (lchk v0) fun t6 =>ob (lstV r5.2 1 t6 r5.1) fun r7 =>
  ckd ((!(true)||((!(false))&&ivo (lload1 H t1) t2&&ivo (lload1 r4.2 t1) t2))&&true) <|
 some ((.tuple []),r7.2)
def QisPopS (cal:CB)(O:Oracle)(N:Nat)(v0:IV)(H:Heap):OH :=
 ob (lchk v0) fun t1 =>ob (lload1 H t1) fun t2 =>ob (llen H .slice t2) fun t3 =>ob (lbin .sub t3 (.int .i64 1)) fun t4 =>ob (lchk v0) fun t5 =>ob (lload1 H t5) fun t6 =>ob (lix 3 t6 t4) fun t7 =>ob (lloadn H 3 t7) fun t8 =>ob (lzbox H (.agg [(.int .i64 0),(.int .i64 0),(.int .i64 0)])) fun r9 =>ob (lstV r9.2 3 r9.1 t8) fun r10 =>ob (lchk v0) fun t11 =>ob (lload1 r10.2 t11) fun t12 =>ob (lslice r10.2 (.slice 3) t12 none (some t4) none) fun t13 =>ob (lchk v0) fun t14 =>ob (lstV r10.2 1 t14 t13) fun r15 =>ob (lloadn r15.2 3 r9.1) fun t16 =>ob (some (.iface 198 t16)) fun t17 =>some (t17,r15.2)
def cHpPushS (cal:CB)(O:Oracle)(N:Nat)(f0:FuncId)(v0 v1:IV)(H:Heap):OH :=
 ob (linvV O H [(104,(90,0)),(196,(207,0))] v0 [v1]) fun r1 =>ob (linvV O r1.2 [(91,(198,0)),(104,(62,0)),(133,(121,0)),(178,(117,0)),(196,(117,1))] v0 []) fun r2 =>ob (lbin .sub r2.1 (.int .i64 1)) fun t3 =>ob (O f0 [v0,t3] r2.2) fun r4 =>some ((.tuple []),r4.2)
def cHpPopS (cal:CB)(O:Oracle)(N:Nat)(f0:FuncId)(v0:IV)(H:Heap):OH :=
 ob (linvV O H [(91,(198,0)),(104,(62,0)),(133,(121,0)),(178,(117,0)),(196,(117,1))] v0 []) fun r1 =>ob (lbin .sub r1.1 (.int .i64 1)) fun t2 =>ob (linvV O r1.2 [(178,(204,0)),(196,(204,1))] v0 [(.int .i64 0),t2]) fun r3 =>ob (O f0 [v0,(.int .i64 0),t2] r3.2) fun r4 =>ob (linvV O r4.2 [(104,(96,0)),(196,(206,0))] v0 []) fun r5 =>some (r5.1,r5.2)
def X11K1 :LC:=.block 1 (.seq (.reg [ qM 5 1,qO 6 (.bin .sub (.t 5) (k6 1)),qO 7 (.bin .quo (.t 6) (k6 2)),qM 4 7]) (.seq (.seq (.reg [ qM 8 4,qM 9 1,qO 10 (.bin .eql (.t 8) (.t 9)),qM 11 10,⟨(some 12),(.mv (.t 0)),(some (11,false))⟩,⟨(some 13),(.mv (.t 1)),(some (11,false))⟩,⟨(some 14),(.mv (.t 4)),(some (11,false))⟩,⟨(some 15),(.inv [(178,(203,0)),(196,(203,1))] (.t 12) [(.t 13),(.t 14)]),(some (11,false))⟩,⟨(some 16),(.un .not (.t 15)),(some (11,false))⟩,qO 17 (.pick (.t 11) (.k (.bool true)) (.t 16))]) (.cond (.t 17) (.exit 0) .skip)) (.seq (.reg [ qM 18 0,qM 19 4,qM 20 1,qO 21 (.inv [(178,(204,0)),(196,(204,1))] (.t 18) [(.t 19),(.t 20)])]) (.reg [ qM 22 4,qM 1 22]))))
def cHpUpC0 :LC:=.loop X11K1
def cHpUpC1 :LC:=.block 0 cHpUpC0
def cHpUpC0S (cal:CB)(O:Oracle)(N:Nat)(gE0:Heap->OH):Nat->IV->IV->Heap->OH
 | 0,_,_,_=>none
 | n+1,v0,v1,H =>ob (lbin .sub v1 (.int .i64 1)) fun t1 =>ob (lbin .quo t1 (.int .i64 2)) fun t2 =>ob (lbin .eql t2 v1) fun t3 =>ob (gq (isB t3 false) (some v0)) fun t4 =>ob (gq (isB t3 false) (some v1)) fun t5 =>ob (gq (isB t3 false) (some t2)) fun t6 =>ob (ge (isB t3 false) H (linvV O H [(178,(203,0)),(196,(203,1))] t4 [t5,t6])) fun r7 =>ob (gq (isB t3 false) (iun .not r7.1)) fun t8 =>ob (lpick t3 (.bool true) t8) fun t9 =>cnd t9
  (gE0 r7.2)
  (ob (linvV O r7.2 [(178,(204,0)),(196,(204,1))] v0 [t2,v1]) fun r10 =>
   cHpUpC0S cal O N gE0 n v0 t2 r10.2)
theorem cHpUpC0Eq (cal:CB)(O:Oracle)(N:Nat){k:KT (IV×Heap)}(gE0:Heap->OH)(hgE0:∀E H,k (.exit 0) E H=gE0 H):∀(n:Nat) (E:Sg) (H:Heap),itK (lxK cal O N X11K1) n E H k=cHpUpC0S cal O N gE0 n (lk E 0) (lk E 1) H:=by
 have hk:k=(kE 0 (fun E H=>gE0 H) k):=(kE_mk hgE0 rfl);intro n
 induction n with
 | zero=>intro E H;rfl
 | succ n ih =>
  intro E H;rw[itK_succ,seqK_mk (g:=fun E H=>cHpUpC0S cal O N gE0 n (lk E 0) (lk E 1) H) ih,hk];kernel_rfl
def cHpUpC1S (cal:CB)(O:Oracle)(N:Nat)(gN:Heap->OH)(v0 v1:IV)(H:Heap):OH :=
  cHpUpC0S cal O N (fun H=>gN H) N v0 v1 H
theorem cHpUpC1Eq (cal:CB)(O:Oracle)(N:Nat){k:KT (IV×Heap)}(gN:Heap->OH)(hgN:∀E H,k .normal E H=gN H):∀(E:Sg) (H:Heap),lxK cal O N cHpUpC1 E H k=cHpUpC1S cal O N gN (lk E 0) (lk E 1) H:=by
 have hk:k=(kN (fun E H=>gN H) k):=(kN_mk hgN rfl);intro E H;rw[hk];show lxK cal O N cHpUpC0 E H (blockK 0 (kN (fun E H=>gN H) k))=_;exact cHpUpC0Eq cal O N (k:=(blockK 0 (kN (fun E H=>gN H) k))) gN (fun _ _=>rfl) N E H
def cHpUp :LFun:=⟨cHpUpC1,[],23⟩
def cHpUpS (cal:CB)(O:Oracle)(N:Nat)(v0 v1:IV)(H:Heap):OH :=
  cHpUpC1S cal O N (fun H=>some ((.tuple []),H)) v0 v1 H
theorem cHpUpEq (cal:CB)(O:Oracle)(N:Nat)(v0 v1:IV)(H:Heap):lrunK cal O N (cHpUp) [v0,v1] H=cHpUpS cal O N v0 v1 H:=by
 show lxK cal O N cHpUpC1 (initFrom 0 [v0,v1]) H (endK [])=_;exact cHpUpC1Eq cal O N (k:=(endK [])) (fun H=>some ((.tuple []),H)) (fun _ _=>rfl) (initFrom 0 [v0,v1]) H
def X11K0 :LC:=.block 1 (.seq (.reg [ qM 12 7,qO 13 (.bin .mul (k6 2) (.t 12)),qO 14 (.bin .add (.t 13) (k6 1)),qM 8 14]) (.seq (.seq (.reg [ qM 15 8,qM 16 2,qO 17 (.bin .geq (.t 15) (.t 16)),qM 18 17,⟨(some 19),(.mv (.t 8)),(some (18,false))⟩,⟨(some 20),(.bin .lss (.t 19) (k6 0)),(some (18,false))⟩,qO 21 (.pick (.t 18) (.k (.bool true)) (.t 20))]) (.cond (.t 21) (.exit 0) .skip)) (.seq (.reg [ qM 22 8,qM 9 22]) (.seq (.seq (.reg [ qM 23 8,qO 24 (.bin .add (.t 23) (k6 1)),qM 10 24]) (.seq (.reg [ qM 25 10,qM 26 2,qO 27 (.bin .lss (.t 25) (.t 26)),qM 28 27,⟨(some 29),(.mv (.t 0)),(some (28,true))⟩,⟨(some 30),(.mv (.t 10)),(some (28,true))⟩,⟨(some 31),(.mv (.t 8)),(some (28,true))⟩,⟨(some 32),(.inv [(178,(203,0)),(196,(203,1))] (.t 29) [(.t 30),(.t 31)]),(some (28,true))⟩,qO 33 (.pick (.t 28) (.t 32) (.k (.bool false)))]) (.cond (.t 33) (.reg [ qM 34 10,qM 9 34]) .skip))) (.seq (.seq (.reg [ qM 35 0,qM 36 9,qM 37 7,qO 38 (.inv [(178,(203,0)),(196,(203,1))] (.t 35) [(.t 36),(.t 37)]),qO 39 (.un .not (.t 38))]) (.cond (.t 39) (.exit 0) .skip)) (.seq (.reg [ qM 40 0,qM 41 7,qM 42 9,qO 43 (.inv [(178,(204,0)),(196,(204,1))] (.t 40) [(.t 41),(.t 42)])]) (.reg [ qM 44 9,qM 7 44])))))))
def cHpDownC0 :LC:=.loop X11K0
def cHpDownC1 :LC:=.block 0 cHpDownC0
def X11K2 :LC:=.seq (.reg [ qM 45 7,qM 46 1,qO 47 (.bin .gtr (.t 45) (.t 46)),qM 6 47]) .ret
def cHpDownC2 :LC:=.seq cHpDownC1 X11K2
def cHpDownC3 :LC:=.seq (.reg [ qM 11 1,qM 7 11]) cHpDownC2
def cHpDownC4 :LC:=.seq (.reg [ qO 6 (.mv (.k (.bool false)))]) cHpDownC3
def cHpDownC0S (cal:CB)(O:Oracle)(N:Nat)(gE0:IV->IV->Heap->OH):Nat->IV->IV->IV->IV->Heap->OH
 | 0,_,_,_,_,_=>none
 | n+1,v0,v1,v2,v7,H =>ob (lbin .mul (.int .i64 2) v7) fun t1 =>ob (lbin .add t1 (.int .i64 1)) fun t2 =>ob (lbin .geq t2 v2) fun t3 =>ob (gq (isB t3 false) (some t2)) fun t4 =>ob (gq (isB t3 false) (lbin .lss t4 (.int .i64 0))) fun t5 =>ob (lpick t3 (.bool true) t5) fun t6 =>cnd t6
  (gE0 v1 v7 H)
  (jn (fun(j8:IV) (H21:Heap) =>ob (linvV O H21 [(178,(203,0)),(196,(203,1))] v0 [j8,v7]) fun r22 =>ob (iun .not r22.1) fun t23 =>cnd t23
  (gE0 v1 v7 r22.2)
  (ob (linvV O r22.2 [(178,(204,0)),(196,(204,1))] v0 [v7,j8]) fun r24 =>
   cHpDownC0S cal O N gE0 n v0 v1 v2 j8 r24.2)) fun J7 =>ob (lbin .add t2 (.int .i64 1)) fun t25 =>ob (lbin .lss t25 v2) fun t26 =>ob (gq (isB t26 true) (some v0)) fun t27 =>ob (gq (isB t26 true) (some t25)) fun t28 =>ob (gq (isB t26 true) (some t2)) fun t29 =>ob (ge (isB t26 true) H (linvV O H [(178,(203,0)),(196,(203,1))] t27 [t28,t29])) fun r30 =>ob (lpick t26 r30.1 (.bool false)) fun t31 =>cnd t31
  (J7 t25 r30.2)
  (J7 t2 r30.2))
theorem cHpDownC0Eq (cal:CB)(O:Oracle)(N:Nat){k:KT (IV×Heap)}(gE0:IV->IV->Heap->OH)(hgE0:∀E H,k (.exit 0) E H=gE0 (lk E 1) (lk E 7) H):∀(n:Nat) (E:Sg) (H:Heap),itK (lxK cal O N X11K0) n E H k=cHpDownC0S cal O N gE0 n (lk E 0) (lk E 1) (lk E 2) (lk E 7) H:=by
 have hk:k=(kE 0 (fun E H=>gE0 (lk E 1) (lk E 7) H) k):=(kE_mk hgE0 rfl);intro n
 induction n with
 | zero=>intro E H;rfl
 | succ n ih =>
  intro E H;rw[itK_succ,seqK_mk (g:=fun E H=>cHpDownC0S cal O N gE0 n (lk E 0) (lk E 1) (lk E 2) (lk E 7) H) ih,hk];kernel_rfl
def cHpDownC1S (cal:CB)(O:Oracle)(N:Nat)(gN:IV->IV->Heap->OH)(v0 v1 v2 v7:IV)(H:Heap):OH :=
  cHpDownC0S cal O N (fun v1 v7 H=>gN v1 v7 H) N v0 v1 v2 v7 H
theorem cHpDownC1Eq (cal:CB)(O:Oracle)(N:Nat){k:KT (IV×Heap)}(gN:IV->IV->Heap->OH)(hgN:∀E H,k .normal E H=gN (lk E 1) (lk E 7) H):∀(E:Sg) (H:Heap),lxK cal O N cHpDownC1 E H k=cHpDownC1S cal O N gN (lk E 0) (lk E 1) (lk E 2) (lk E 7) H:=by
 have hk:k=(kN (fun E H=>gN (lk E 1) (lk E 7) H) k):=(kN_mk hgN rfl);intro E H;rw[hk];show lxK cal O N cHpDownC0 E H (blockK 0 (kN (fun E H=>gN (lk E 1) (lk E 7) H) k))=_;exact cHpDownC0Eq cal O N (k:=(blockK 0 (kN (fun E H=>gN (lk E 1) (lk E 7) H) k))) gN (fun _ _=>rfl) N E H
def cHpDownC2S (cal:CB)(O:Oracle)(N:Nat)(v0 v1 v2 v7:IV)(H:Heap):OH :=
  cHpDownC1S cal O N (fun v1 v7 H=>ob (lbin .gtr v7 v1) fun t1 =>some (t1,H)) v0 v1 v2 v7 H
theorem cHpDownC2Eq (cal:CB)(O:Oracle)(N:Nat){k:KT (IV×Heap)}(hR:∀E H,k .ret E H=resK [(.tmp 6)] [] E H):∀(E:Sg) (H:Heap),lxK cal O N cHpDownC2 E H k=cHpDownC2S cal O N (lk E 0) (lk E 1) (lk E 2) (lk E 7) H:=by
 have hk:k=(kR (resK [(.tmp 6)] []) k):=(kR_mk hR rfl);intro E H;rw[hk];show lxK cal O N cHpDownC1 E H (seqK (lxK cal O N X11K2) (kR (resK [(.tmp 6)] []) k))=_;exact cHpDownC1Eq cal O N (k:=(seqK (lxK cal O N X11K2) (kR (resK [(.tmp 6)] []) k))) (fun v1 v7 H=>ob (lbin .gtr v7 v1) fun t1 =>some (t1,H)) (fun _ _=>rfl) E H
def cHpDownC3S (cal:CB)(O:Oracle)(N:Nat)(v0 v1 v2:IV)(H:Heap):OH :=
  cHpDownC2S cal O N v0 v1 v2 v1 H
theorem cHpDownC3Eq (cal:CB)(O:Oracle)(N:Nat){k:KT (IV×Heap)}(hR:∀E H,k .ret E H=resK [(.tmp 6)] [] E H):∀(E:Sg) (H:Heap),lxK cal O N cHpDownC3 E H k=cHpDownC3S cal O N (lk E 0) (lk E 1) (lk E 2) H:=by
 have hk:k=(kR (resK [(.tmp 6)] []) k):=(kR_mk hR rfl);intro E H;rw[hk];show lxK cal O N (.reg [ qM 11 1,qM 7 11]) E H (seqK (lxK cal O N cHpDownC2) (kR (resK [(.tmp 6)] []) k))=_;rw[seqK_mk (g:=fun E H=>cHpDownC2S cal O N (lk E 0) (lk E 1) (lk E 2) (lk E 7) H) (cHpDownC2Eq cal O N (k:=(kR (resK [(.tmp 6)] []) k)) (fun _ _=>rfl))];kernel_rfl
def cHpDownC4S (cal:CB)(O:Oracle)(N:Nat)(v0 v1 v2:IV)(H:Heap):OH :=
  cHpDownC3S cal O N v0 v1 v2 H
theorem cHpDownC4Eq (cal:CB)(O:Oracle)(N:Nat){k:KT (IV×Heap)}(hR:∀E H,k .ret E H=resK [(.tmp 6)] [] E H):∀(E:Sg) (H:Heap),lxK cal O N cHpDownC4 E H k=cHpDownC4S cal O N (lk E 0) (lk E 1) (lk E 2) H:=by
 have hk:k=(kR (resK [(.tmp 6)] []) k):=(kR_mk hR rfl);intro E H;rw[hk];show lxK cal O N (.reg [ qO 6 (.mv (.k (.bool false)))]) E H (seqK (lxK cal O N cHpDownC3) (kR (resK [(.tmp 6)] []) k))=_;rw[seqK_mk (g:=fun E H=>cHpDownC3S cal O N (lk E 0) (lk E 1) (lk E 2) H) (cHpDownC3Eq cal O N (k:=(kR (resK [(.tmp 6)] []) k)) (fun _ _=>rfl))];kernel_rfl
def cHpDown :LFun:=⟨cHpDownC4,[(.tmp 6)],48⟩
def cHpDownS (cal:CB)(O:Oracle)(N:Nat)(v0 v1 v2:IV)(H:Heap):OH :=
  cHpDownC4S cal O N v0 v1 v2 H
theorem cHpDownEq (cal:CB)(O:Oracle)(N:Nat)(v0 v1 v2:IV)(H:Heap):lrunK cal O N (cHpDown) [v0,v1,v2] H=cHpDownS cal O N v0 v1 v2 H:=by
 show lxK cal O N cHpDownC4 (initFrom 0 [v0,v1,v2]) H (endK [(.tmp 6)])=_;exact cHpDownC4Eq cal O N (k:=(endK [(.tmp 6)])) (fun _ _=>rfl) (initFrom 0 [v0,v1,v2]) H
def QqLenS (cal:CB)(O:Oracle)(N:Nat)(f0:FuncId)(v0:IV)(H:Heap):OH :=
 ob (lchk v0) fun t1 =>ob (loff t1 0) fun t2 =>ob (lload1 H t2) fun t3 =>ob (O f0 [t3] H) fun r4 =>some (r4.1,r4.2)
end Go.Shade
namespace Go.Shade
variable {F G : Nat -> Prop} {H H' : Heap} {b i : Nat} {cs : List IV} {o : IObj}
abbrev Out :=IV×Heap
def Frame (F:Nat->Prop)(H H':Heap):Prop:=H.length<=H'.length/\∀i,i<H.length->¬F i->H'[i]? =H[i]?
abbrev NoF :Nat->Prop:=fun _=>False
theorem Frame.refl (F:Nat->Prop)(H:Heap):Frame F H H:=⟨Nat.le_refl _,fun _ _ _=>rfl⟩
theorem Frame.mono (h:Frame F H H')(k:∀i,F i->G i):Frame G H H':=⟨h.1,fun i hi hg=>h.2 i hi (fun hf=>hg (k i hf))⟩
theorem Frame.no (h:Frame NoF H H'):Frame G H H':=h.mono fun _ h=>h.elim
theorem Frame.trans {F G:Nat->Prop}{H H' H'':Heap}(h:Frame F H H')(k:Frame G H' H'')(hg:∀i,i<H.length->G i->F i):Frame F H H'' :=
 ⟨Nat.le_trans h.1 k.1,fun i hi hf=>(k.2 i (Nat.lt_of_lt_of_le hi h.1) (fun g=>hf (hg i hi g))).trans (h.2 i hi hf)⟩
theorem Frame.tr {H'':Heap}(h:Frame F H H')(k:Frame F H' H''):Frame F H H'':=h.trans k fun _ _ h=>h
theorem Frame.push (F:Nat->Prop)(H X:Heap):Frame F H (H++X):=⟨by simp,fun i hi _=>List.getElem?_append_left hi⟩
theorem Frame.set {F:Nat->Prop}(H:Heap){r:Nat}(o:IObj)(h:F r):Frame F H (H.set r o):=⟨by simp,fun i hi hf=>List.getElem?_set_ne (fun e=>hf (by rw[←e];exact h))⟩
theorem Frame.setNew {F:Nat->Prop}{H H':Heap}(h:Frame F H H'){r:Nat}(o:IObj)(hr:H.length<=r):Frame F H (H'.set r o) :=
 h.trans (Frame.set (F:=fun i=>i=r) H' o rfl) fun i hi e=>by omega
theorem Frame.get (h:Frame F H H')(hf:¬F i)(e:H[i]? =some o):H'[i]? =some o:=(h.2 i (ges e).1 hf).trans e
def Sl (s:Nat)(H:Heap)(v:IV)(n:Nat)(cs:List IV):Prop :=
 cs.length=n*s/\((v=.nilSlice/\n=0)∨∃b o lb ex sz,v=.slice b o n lb ex sz/\n<=lb/\(sz=0∨sz=s)/\(0<n->∃row ro,H[b]? =some (.row row ro)/\o+n*s<=row.length/\(row.drop o).take (n*s)=cs))
def At (F:Nat->Prop)(v:IV):Prop:=∀b o n lb ex sz,v=.slice b o n lb ex sz->0<n->F b
theorem At.mono {v:IV}(h:At F v)(k:∀i,F i->G i):At G v:=fun b o n lb ex sz e hn=>k _ (h b o n lb ex sz e hn)
theorem At.nil :At F .nilSlice:=fun _ _ _ _ _ _ e=>by cases e
section
variable {s n : Nat} {H : Heap} {v : IV} {cs : List IV}
theorem Sl.lt (h:Sl s H v n cs):At (· <H.length) v:=by
 intro b o m lb ex sz e hm;obtain⟨_,⟨rfl,_⟩ | ⟨b',o',lb',ex',sz',rfl,_,_,h4⟩⟩:=h
 ·cases e
 ·cases e
  obtain⟨row,ro,g,_⟩:=h4 hm;exact(ges g).1
theorem Sl.nil (s:Nat)(H:Heap):Sl s H .nilSlice 0 []:=⟨by simp,.inl ⟨rfl,rfl⟩⟩
theorem Sl.len (h:Sl s H v n cs):llen H .slice v=some (.int .i64 (n:Nat)):=by
 obtain⟨_,⟨rfl,rfl⟩ | ⟨b,o,lb,ex,sz,rfl,_,_,h4⟩⟩:=h<;>rfl
theorem Sl.frame (h:Sl s H v n cs)(k:Frame F H H')(hf:At (fun b=>¬F b) v):Sl s H' v n cs:=by
 obtain⟨h1,⟨rfl,rfl⟩ | ⟨b,o,lb,ex,sz,rfl,h2,h3,h4⟩⟩:=h
 ·exact⟨h1,.inl ⟨rfl,rfl⟩⟩
 ·refine⟨h1,.inr ⟨b,o,lb,ex,sz,rfl,h2,h3,fun hn=> ?_⟩⟩;obtain⟨row,ro,g1,g2⟩:=h4 hn;exact⟨row,ro,k.get (hf _ _ _ _ _ _ rfl hn) g1,g2⟩
theorem Sl.ix (h:Sl s H v n cs)(hi:i<n):∃b o,lix s v (.int .i64 (i:Nat))=some (.ptr b o)/\∃row ro,H[b]? =some (.row row ro)/\o+s<=row.length/\(row.drop o).take s=(cs.drop (i*s)).take s/\∀k,k<s->row[o+k]? =cs[i*s+k]? :=by
 obtain⟨h1,⟨rfl,rfl⟩ | ⟨b,o,lb,ex,sz,rfl,h2,h3,h4⟩⟩:=h
 ·omega
 ·obtain⟨row,ro,g1,g2,g3⟩:=h4 (by omega);have hle:i*s+s<=n*s:=by rw[←Nat.succ_mul];exact Nat.mul_le_mul_right s hi
  refine⟨b,o+i*s,by rw[lix_slice,if_pos (by omega)];simp,row,ro,g1,by omega,?_,fun k hk=> ?_⟩
  ·rw[←g3,List.drop_take,List.take_take,List.drop_drop,Nat.min_eq_left (by omega)]
  ·rw[←g3,List.getElem?_take,if_pos (by omega),List.getElem?_drop,Nat.add_assoc]
theorem Sl.at1 (h:Sl 1 H v n cs)(hi:i<n):∃p,lix 1 v (.int .i64 (i:Nat))=some p/\lload1 H p=cs[i]? :=by
 obtain⟨b,o,e,row,ro,g1,g2,g3,g4⟩:=h.ix hi;refine⟨_,e,?_⟩;have:=g4 0 (by omega);rw[lload1_ptr,g1,og1_row]
 simpa using this
theorem Sl.atn (h:Sl s H v n cs)(hi:i<n):∃p,lix s v (.int .i64 (i:Nat))=some p/\lloadn H s p=some (.agg ((cs.drop (i*s)).take s)):=by
 obtain⟨b,o,e,row,ro,g1,g2,g3,g4⟩:=h.ix hi;exact⟨_,e,by rw[lloadn_ptr,g1,ogn_row,if_pos g2,g3]⟩
theorem Sl.xlen (h:Sl s H v n cs):Shade.xlen v=some n:=by
 obtain⟨_,⟨rfl,rfl⟩ | ⟨b,o,lb,ex,sz,rfl,_,_,h4⟩⟩:=h<;>rfl
theorem Sl.take (h:Sl s H v n cs){k:Nat}(hk:k<=n):∃v',lslice H (.slice s) v none (some (.int .i64 (k:Nat))) none=some v'/\Sl s H v' k (cs.take (k*s)):=by
 obtain⟨h1,⟨rfl,rfl⟩ | ⟨b,o,lb,ex,sz,rfl,h2,h3,h4⟩⟩:=h
 ·have:k=0:=by omega
  subst this;exact⟨_,rfl,by simp,.inl ⟨rfl,rfl⟩⟩
 ·have hle:k*s<=n*s:=Nat.mul_le_mul_right s hk;refine⟨.slice b (o+0*s) (k - 0) (lb - 0) ex sz,?_,by rw[List.length_take,h1];omega,.inr ⟨b,o+0*s,lb - 0,ex,sz,by simp,by omega,h3,fun hp=> ?_⟩⟩
  ·simp only[lslice,bnd];rw[if_pos (by omega)];simp only[Option.bind_some,Int.toNat_natCast];rw[if_neg (fun h=>by rcases h3 with e | e;exact h.1 e;exact h.2 e),if_pos (by clear h4;omega)]
  ·obtain⟨row,ro,g1,g2,g3⟩:=h4 (by omega);refine⟨row,ro,g1,by omega,?_⟩;rw[←g3,List.take_take,Nat.min_eq_left hle];simp
theorem Sl.drop (h:Sl s H v n cs){k:Nat}(hk:k<=n):∃v',lslice H (.slice s) v (some (.int .i64 (k:Nat))) none none=some v'/\Sl s H v' (n - k) (cs.drop (k*s)):=by
 obtain⟨h1,⟨rfl,rfl⟩ | ⟨b,o,lb,ex,sz,rfl,h2,h3,h4⟩⟩:=h
 ·have:k=0:=by omega
  subst this;exact⟨_,rfl,by simpa using h1,.inl ⟨rfl,rfl⟩⟩
 ·have hmul:(n - k)*s=n*s - k*s:=Nat.sub_mul n k s;have hle:k*s<=n*s:=Nat.mul_le_mul_right s hk;refine⟨.slice b (o+k*s) (n - k) (lb - k) ex sz,?_,by rw[List.length_drop,h1,hmul],.inr ⟨b,o+k*s,lb - k,ex,sz,rfl,by omega,h3,fun hp=> ?_⟩⟩
  ·simp only[lslice,bnd];rw[if_pos (by omega)];simp only[Option.bind_some,Int.toNat_natCast];rw[if_neg (fun h=>by rcases h3 with e | e;exact h.1 e;exact h.2 e),if_pos (by clear h4;omega)]
  ·obtain⟨row,ro,g1,g2,g3⟩:=h4 (by omega);refine⟨row,ro,g1,by omega,?_⟩;rw[←g3,List.drop_take,List.drop_drop,hmul]
theorem Buf.sl {B:Nat}(h:Buf B s H v cs):∃n,Sl s H v n cs:=by
 rcases h with⟨rfl,rfl⟩ | ⟨r,n,ex,rfl,g1,g2,g3⟩
 ·exact⟨0,Sl.nil _ _⟩
 ·exact⟨n,g3,.inr ⟨r,0,n,ex,s,rfl,Nat.le_refl _,.inr rfl,fun _=>⟨cs,false,g2,by omega,by rw[List.drop_zero,List.take_of_length_le (by omega)]⟩⟩⟩
theorem Buf.ge {B:Nat}(h:Buf B s H v cs):At (B<= ·) v:=by
 intro b o n lb ex sz e _;rcases h with⟨rfl,rfl⟩ | ⟨r,n,ex,rfl,g1,g2,g3⟩
 ·cases e
 ·cases e;exact g1
theorem Buf.le {B C:Nat}(h:Buf B s H v cs)(hc:C<=B):Buf C s H v cs:=by
 rcases h with h | ⟨r,n,ex,rfl,h1,h2,h3⟩
 ·exact .inl h
 ·exact .inr ⟨r,n,ex,rfl,Nat.le_trans hc h1,h2,h3⟩
end
theorem newRow :(H++[o])[H.length]? =some o:=by simp
theorem setRow {p:IObj}:(H++[o]).set H.length p=H++[p]:=by simp
theorem setAt {p:Nat}{o':IObj}(hp:H[p]? =some o):(H.set p o')[p]? =some o':=by
 have:=(ges hp).1;simp[this]
theorem st1 {k:Nat}{x:IV}(h:H[b]? =some (.row cs false))(hx:x.one=true)(hk:k<cs.length):lstV H 1 (.ptr b k) x=some (.tuple [],H.set b (.row (cs.set k x) false)):=by
 rw[lstV_ptr,h,putO_one hx hk];rfl
theorem stn {n:Nat}{xs:List IV}(h:H[b]? =some (.row cs false))(hx:xs.all IV.one=true)(hn:xs.length=n)(hk:cs.length=n):lstV H n (.ptr b 0) (.agg xs)=some (.tuple [],H.set b (.row xs false)):=by
 rw[lstV_ptr,h,putO_all hx hn hk];rfl
theorem ld1 {k:Nat}{ro:Bool}(h:H[b]? =some (.row cs ro)):lload1 H (.ptr b k)=cs[k]? :=by rw[lload1_ptr,h];rfl
theorem ldn {n:Nat}{ro:Bool}(h:H[b]? =some (.row cs ro))(hn:cs.length=n):lloadn H n (.ptr b 0)=some (.agg cs):=by
 subst hn;rw[lloadn_ptr,h,ogn_row,if_pos (by omega)];simp
def strs (l:List (List UInt8)):List IV:=l.map .str
theorem strs_length (l:List (List UInt8)):(strs l).length=l.length:=by simp[strs]
end Go.Shade
namespace Go.Shade
variable {H : Heap} {P : Nat -> Prop} {j : Nat} {sv : IV}
structure It where
 key:Int
 n:Int
 push:Int
 deriving DecidableEq
def It.c (x:It):List IV:=[.int .i64 x.key,.int .i64 x.n,.int .i64 x.push]
def itcs :List It->List IV
 | []=>[]
 | x::l=>.int .i64 x.key:: .int .i64 x.n:: .int .i64 x.push::itcs l
theorem It.c_length (x:It):x.c.length=3:=rfl
theorem It.c_one (x:It):x.c.all IV.one=true:=rfl
theorem itcs_length :∀l:List It,(itcs l).length=3*l.length
 | []=>rfl
 | x::l=>by simp[itcs,itcs_length l];omega
theorem itcs_append :∀a b:List It,itcs (a++b)=itcs a++itcs b
 | [],b=>rfl
 | x::a,b=>by simp[itcs,itcs_append a b]
theorem itcs_drop :∀(l:List It) (n:Nat),(itcs l).drop (3*n)=itcs (l.drop n)
 | l,0=>rfl
 | [],n+1=>by simp[itcs]
 | x::l,n+1=>by
  rw[show 3*(n+1)=3*n+1+1+1 by omega];simp only[itcs,List.drop_succ_cons];exact itcs_drop l n
theorem itcs_take :∀(l:List It) (n:Nat),(itcs l).take (3*n)=itcs (l.take n)
 | l,0=>rfl
 | [],n+1=>by simp[itcs]
 | x::l,n+1=>by
  rw[show 3*(n+1)=3*n+1+1+1 by omega];simp only[itcs,List.take_succ_cons,itcs_take l n]
theorem itcs_set :∀(l:List It) (j:Nat) (x:It),j<l.length->itcs (l.set j x)=itcs (l.take j)++(x.c++itcs (l.drop (j+1)))
 | [],j,x,h=>by simp at h
 | y::l,0,x,h=>by simp[itcs,It.c]
 | y::l,j+1,x,h=>by
  simp only[List.set_cons_succ,itcs,List.take_succ_cons,List.drop_succ_cons,List.cons_append];rw[itcs_set l j x (by simpa using h)]
theorem itcs_put {l:List It}(h:j<l.length)(x:It):putAt (itcs l) (3*j) x.c=itcs (l.set j x):=by
 apply List.ext_getElem?;intro k;have hl:=itcs_length l;rw[putAt_get (by rw[It.c_length];omega),itcs_set l j x h,It.c_length];have ht:(itcs (l.take j)).length=3*j:=by rw[itcs_length,List.length_take];omega
 rw[List.getElem?_append];by_cases h1:k<3*j
 ·rw[if_neg (by omega),if_pos (by omega),←itcs_take,List.getElem?_take,if_pos h1]
 ·rw[ht,if_neg h1,List.getElem?_append,It.c_length];by_cases h2:k<3*j+3
  ·rw[if_pos (by omega),if_pos (by omega)]
  ·rw[if_neg (by omega),if_neg (by omega),←itcs_drop,List.getElem?_drop]
   congr 1;omega
theorem itcs_ld {l:List It}{x:It}(h:l[j]? =some x):((itcs l).drop (3*j)).take 3=x.c:=by
 rw[itcs_drop];have:l.drop j=x::l.drop (j+1):=by
  rw[List.drop_eq_getElem_cons (ges h).1];rw[(ges h).2]
 rw[this];rfl
theorem ldi {b:Nat}{l:List It}{x:It}(hb:H[b]? =some (.row (itcs l) false))(h:l[j]? =some x):lloadn H 3 (.ptr b (j*3))=some (.agg x.c):=by
 have:=(ges h).1;rw[lloadn_ptr,hb,ogn_row,if_pos (by rw[itcs_length];omega),Nat.mul_comm,itcs_ld h]
theorem sti {b:Nat}{l:List It}{x:It}(hb:H[b]? =some (.row (itcs l) false))(h:j<l.length):lstV H 3 (.ptr b (j*3)) (.agg x.c)=some (.tuple [],H.set b (.row (itcs (l.set j x)) false)):=by
 rw[lstV_ptr,hb];have:putO (some (.row (itcs l) false)) b (j*3) 3 (.agg x.c) H=some (H.set b (.row (putAt (itcs l) (j*3) x.c) false)):=by
  unfold putO;simp only[IV.cells,isTuple];rw[if_pos ⟨trivial,rfl,by rw[itcs_length,It.c_length];omega,rfl⟩]
 rw[this,Nat.mul_comm,itcs_put h];rfl
def QSl (P:Nat->Prop)(H:Heap)(sv:IV)(l:List It):Prop :=
 (sv=.nilSlice/\l=[])∨∃r rest ex,sv=.slice r 0 l.length (l.length+rest.length) ex 3/\P r/\H[r]? =some (.row (itcs (l++rest)) false)
theorem QSl.len {l:List It}(h:QSl P H sv l):llen H .slice sv=some (.int .i64 (l.length:Nat)):=by
 rcases h with⟨rfl,rfl⟩ | ⟨r,rest,ex,rfl,_,_⟩<;>rfl
theorem QSl.one {P:Nat->Prop}{H:Heap}{sv:IV}{l:List It}(h:QSl P H sv l):sv.one=true:=by
 rcases h with⟨rfl,rfl⟩ | ⟨r,rest,ex,rfl,_,_⟩<;>rfl
theorem QSl.frame {F:Nat->Prop}{H':Heap}{l:List It}(h:QSl P H sv l)(k:Frame F H H')(hf:∀i,P i->¬F i):QSl P H' sv l:=by
 rcases h with h | ⟨r,rest,ex,h1,h2,h3⟩
 ·exact .inl h
 ·exact .inr ⟨r,rest,ex,h1,h2,k.get (hf r h2) h3⟩
theorem QSl.mono {Q:Nat->Prop}{l:List It}(h:QSl P H sv l)(k:∀i,P i->Q i):QSl Q H sv l:=by
 rcases h with h | ⟨r,rest,ex,h1,h2,h3⟩
 ·exact .inl h
 ·exact .inr ⟨r,rest,ex,h1,k r h2,h3⟩
theorem QSl.at {P:Nat->Prop}{H:Heap}{sv:IV}{l:List It}(h:QSl P H sv l){i:Nat}{x:It}(hi:l[i]? =some x):∃r rest ex,sv=.slice r 0 l.length (l.length+rest.length) ex 3/\P r/\H[r]? =some (.row (itcs (l++rest)) false)/\lix 3 sv (.int .i64 (i:Nat))=some (.ptr r (i*3))/\lloadn H 3 (.ptr r (i*3))=some (.agg x.c):=by
 have hlt:=(ges hi).1;rcases h with⟨rfl,rfl⟩ | ⟨r,rest,ex,rfl,h2,h3⟩
 ·simp at hlt
 ·exact⟨r,rest,ex,rfl,h2,h3,by rw[lix_slice,if_pos (by omega)];simp,ldi h3 (by rw[List.getElem?_append_left hlt];exact hi)⟩
def QOk (P:Nat->Prop)(H:Heap)(q:Nat)(l:List It)(k:Int):Prop :=
 P q/\(∀i,P i->i<H.length)/\∃sv,H[q]? =some (.row [sv,.int .i64 k] false)/\QSl (fun i=>P i/\i≠q) H sv l
theorem QOk.frame {P F:Nat->Prop}{H H':Heap}{q:Nat}{l:List It}{k:Int}(h:QOk P H q l k)(e:Frame F H H')(hf:∀i,P i->¬F i):QOk P H' q l k:=by
 obtain⟨h1,h2,sv,h3,h4⟩:=h;exact⟨h1,fun i hi=>Nat.lt_of_lt_of_le (h2 i hi) e.1,sv,e.get (hf q h1) h3,h4.frame e fun i hi=>hf i hi.1⟩
def ahead (a b:It):Bool:=if a.key=b.key then decide (a.push<b.push)else decide (a.key<b.key)
def aheadAt (l:List It)(i j:Nat):Bool:=match l[i]?,l[j]? with
 | some x,some y=>ahead x y
 | _,_=>false
def iswp (l:List It)(i j:Nat):List It:=match l[i]?,l[j]? with
 | some x,some y=>(l.set i y).set j x
 | _,_=>l
theorem iswp_length (l:List It)(i j:Nat):(iswp l i j).length=l.length:=by
 unfold iswp;split<;>simp
def upL :Nat->List It->Nat->List It
 | 0,l,_=>l
 | n+1,l,j=>if j=0 then l else if aheadAt l j ((j - 1) / 2)then upL n (iswp l ((j - 1) / 2) j) ((j - 1) / 2)else l
def dnJ (l:List It)(i n:Nat):Nat:=if 2*i+2<n/\aheadAt l (2*i+2) (2*i+1)=true then 2*i+2 else 2*i+1
def dnL :Nat->List It->Nat->Nat->List It
 | 0,l,_,_=>l
 | f+1,l,i,n=>if n<=2*i+1 then l else if aheadAt l (dnJ l i n) i then dnL f (iswp l i (dnJ l i n)) (dnJ l i n) n else l
theorem dnL_length :∀f l i n,(dnL f l i n).length=l.length
 | 0,l,i,n=>rfl
 | f+1,l,i,n=>by
  unfold dnL;split
  ·rfl
  ·split
   ·rw[dnL_length,iswp_length]
   ·rfl
theorem itcs_inj :∀{a b:List It},itcs a=itcs b->a=b
 | [],[],_=>rfl
 | [],y::b,h=>by simp[itcs]at h
 | x::a,[],h=>by simp[itcs]at h
 | x::a,y::b,h=>by
  simp only[itcs,List.cons.injEq,IV.int.injEq,true_and]at h;obtain⟨h1,h2,h3,h4⟩:=h;rw[itcs_inj h4]
  cases x;cases y;simp_all
structure QX (H:Heap)(q r:Nat)(ex:Bool)(rest l:List It)(k:Int):Prop where
 hd:H[q]? =some (.row [.slice r 0 l.length (l.length+rest.length) ex 3,.int .i64 k] false)
 row:H[r]? =some (.row (itcs (l++rest)) false)
 ne:r≠q
theorem QX.frame {H':Heap}{q r:Nat}{ex:Bool}{rest l:List It}{k:Int}(h:QX H q r ex rest l k)(g:Frame NoF H H'):QX H' q r ex rest l k:=⟨g.get (fun h=>h) h.hd,g.get (fun h=>h) h.row,h.ne⟩
theorem linv0 {O:Oracle}{tbl:List (Nat×FuncId×Nat)}{t:Nat}{f:FuncId}{v:IV}{as':List IV}(hf:invFind tbl t=some (f,0)):linvV O H tbl (.iface t v) as'=O f (v::as') H:=by
 simp only[linvV,hf,irecv]
theorem linv1 {O:Oracle}{tbl:List (Nat×FuncId×Nat)}{t:Nat}{f:FuncId}{v w:IV}{as':List IV}(hf:invFind tbl t=some (f,1))(hl:lload1 H v=some w):linvV O H tbl (.iface t v) as'=O f (w::as') H:=by
 simp only[linvV,hf,irecv,hl]
theorem set_perm {l:List It}{i:Nat}{x y:It}(h:l[i]? =some x):List.Perm (x::l.set i y) (y::l):=by
 induction l generalizing i with
 | nil=>simp at h
 | cons z l ih =>
  cases i with
  | zero=>simp at h;subst h;exact List.Perm.swap _ _ _
  | succ i =>
   simp at h;refine(List.Perm.swap z x _).trans ?_;exact((ih h).cons z).trans (List.Perm.swap y z l)
theorem iswp_perm (l:List It)(i j:Nat):List.Perm (iswp l i j) l:=by
 unfold iswp;split
 ·rename_i x y hx hy;by_cases e:i=j
  ·subst e;rw[hx]at hy;cases hy
   have:(l.set i x).set i x=l:=by
    rw[List.set_set];exact List.ext_getElem? fun k=>by
     rw[List.getElem?_set];split
     ·rename_i e;subst e;rw[if_pos (ges hx).1,hx]
     ·rfl
   rw[this]
  ·have h2:(l.set i y)[j]? =some y:=by rw[List.getElem?_set_ne e];exact hy
   have a:=set_perm (y:=x) h2;have b:=set_perm (y:=y) hx;exact List.perm_cons y |>.1 (a.trans b)
 ·exact List.Perm.refl _
theorem upL_perm :∀n l j,List.Perm (upL n l j) l
 | 0,l,j=>List.Perm.refl _
 | n+1,l,j=>by
  unfold upL;split
  ·exact List.Perm.refl _
  ·split
   ·exact(upL_perm n _ _).trans (iswp_perm _ _ _)
   ·exact List.Perm.refl _
theorem dnL_perm :∀f l i n,List.Perm (dnL f l i n) l
 | 0,l,i,n=>List.Perm.refl _
 | f+1,l,i,n=>by
  unfold dnL;split
  ·exact List.Perm.refl _
  ·split
   ·exact(dnL_perm f _ _ _).trans (iswp_perm _ _ _)
   ·exact List.Perm.refl _
end Go.Shade
namespace Go.Shade
variable {H : Heap} {P : Nat -> Prop} {f : FuncId} {i j q t : Nat} {k : Int} {l : List It} {sv : IV} {tbl : List (Nat × FuncId × Nat)}
section
variable {cal : FuncId -> Bool} {O : Oracle} {N : Nat}
def ILenOk (O:Oracle)(f:FuncId):Prop:=∀(P:Nat->Prop) (H:Heap) (sv:IV) (l:List It),QSl P H sv l->O f [sv] H=some (.int .i64 (l.length:Nat),H)
theorem ilen_s (h:QSl P H sv l):QisLenS cal O N sv H=some (.int .i64 (l.length:Nat),H):=by
 unfold QisLenS;rw[h.len,ob_some]
def AheadOk (O:Oracle)(f:FuncId):Prop:=∀(H:Heap) (x y:It),Wp (O f [.agg x.c,.agg y.c] H) fun r=>r.1=.bool (ahead x y)/\Frame NoF H r.2
def LessOk (O:Oracle)(f:FuncId):Prop:=∀(P:Nat->Prop) (H:Heap) (sv:IV) (l:List It) (i j:Nat),QSl P H sv l->i<l.length->j<l.length->Wp (O f [sv,.int .i64 (i:Nat),.int .i64 (j:Nat)] H) fun r=>r.1=.bool (aheadAt l i j)/\Frame NoF H r.2
theorem less_s {fa:FuncId}(ha:AheadOk O fa)(h:QSl P H sv l)(hi:i<l.length)(hj:j<l.length):Wp (QisLessS cal O N fa sv (.int .i64 (i:Nat)) (.int .i64 (j:Nat)) H) fun r=>r.1=.bool (aheadAt l i j)/\Frame NoF H r.2:=by
 have gi:l[i]? =some l[i]:=List.getElem?_eq_getElem hi;have gj:l[j]? =some l[j]:=List.getElem?_eq_getElem hj;obtain⟨r,rest,ex,_,_,_,a1,a2⟩:=h.at gi;obtain⟨r',rest',ex',_,_,_,b1,b2⟩:=h.at gj;unfold QisLessS;rw[a1,ob_some,a2,ob_some,b1,ob_some,b2,ob_some];refine Wp.call (ha H l[i] l[j]) ?_;rintro⟨v,H'⟩ ⟨e,k⟩;simp only at e k;subst e;refine Wp.ret ⟨?_,k⟩;unfold aheadAt;rw[gi,gj]
def SwapOk (O:Oracle)(f:FuncId):Prop:=∀(P:Nat->Prop) (H:Heap) (sv:IV) (l:List It) (i j:Nat),QSl P H sv l->i<l.length->j<l.length->Wp (O f [sv,.int .i64 (i:Nat),.int .i64 (j:Nat)] H) fun r=>r.1=.tuple []/\Frame P H r.2/\QSl P r.2 sv (iswp l i j)/\∀b rest ex,sv=.slice b 0 l.length (l.length+rest.length) ex 3->H[b]? =some (.row (itcs (l++rest)) false)->r.2[b]? =some (.row (itcs (iswp l i j++rest)) false)
theorem swap_s (h:QSl P H sv l)(hi:i<l.length)(hj:j<l.length):Wp (QisSwapS cal O N sv (.int .i64 (i:Nat)) (.int .i64 (j:Nat)) H) fun r=>r.1=.tuple []/\Frame P H r.2/\QSl P r.2 sv (iswp l i j)/\∀b rest ex,sv=.slice b 0 l.length (l.length+rest.length) ex 3->H[b]? =some (.row (itcs (l++rest)) false)->r.2[b]? =some (.row (itcs (iswp l i j++rest)) false):=by
 have gi:l[i]? =some l[i]:=List.getElem?_eq_getElem hi;have gj:l[j]? =some l[j]:=List.getElem?_eq_getElem hj;obtain⟨r,rest,ex,rfl,c1,c2,a1,a2⟩:=h.at gi;have b2:lloadn H 3 (.ptr r (j*3))=some (.agg l[j].c):=ldi c2 (by rw[List.getElem?_append_left hj];exact gj);have b1:lix 3 (.slice r 0 l.length (l.length+rest.length) ex 3) (.int .i64 (j:Nat))=some (.ptr r (j*3)):=by rw[lix_slice,if_pos (by omega)];simp
 unfold QisSwapS;rw[b1,ob_some,b2,ob_some,a1,ob_some,a2,ob_some];rw[ob_some,sti c2 (by simp;omega),ob_some];simp only;have c3:=setAt (o':=IObj.row (itcs ((l++rest).set i l[j])) false) c2;rw[ob_some,sti c3 (by simp;omega),ob_some,List.set_set];have hrow:(H.set r (.row (itcs (((l++rest).set i l[j]).set j l[i])) false))[r]? =some (.row (itcs (iswp l i j++rest)) false):=by
  rw[setAt c2];unfold iswp;rw[gi,gj];simp only;rw[List.set_append_left _ _ hi,List.set_append_left _ _ (by simpa using hj)]
 refine Wp.ret ⟨rfl,Frame.set _ _ c1,.inr ⟨r,rest,ex,by rw[iswp_length],c1,hrow⟩,fun b rest' ex' e e'=> ?_⟩;injection e with e1 _ _ _ _ _
 subst e1;rw[c2]at e';injection e' with e';injection e' with e' _
 have:=List.append_cancel_left (itcs_inj e');subst this;exact hrow
theorem invLess (hf:invFind tbl t=some (f,1))(hL:LessOk O f)(hQ:QOk P H q l k)(hi:i<l.length)(hj:j<l.length):Wp (linvV O H tbl (.iface t (.ptr q 0)) [.int .i64 (i:Nat),.int .i64 (j:Nat)]) fun r=>r.1=.bool (aheadAt l i j)/\QOk P r.2 q l k/\Frame NoF H r.2:=by
 obtain⟨h1,h2,sv,h3,h4⟩:=id hQ;rw[linv1 hf (ld1 h3)];refine(hL _ H sv l i j h4 hi hj).mono ?_;rintro⟨v,H'⟩ ⟨e,g⟩;exact⟨e,hQ.frame g fun _ _ h=>h,g⟩
theorem invSwap (hf:invFind tbl t=some (f,1))(hL:SwapOk O f)(hQ:QOk P H q l k)(hi:i<l.length)(hj:j<l.length):Wp (linvV O H tbl (.iface t (.ptr q 0)) [.int .i64 (i:Nat),.int .i64 (j:Nat)]) fun r=>r.1=.tuple []/\QOk P r.2 q (iswp l i j) k/\Frame P H r.2/\r.2[q]? =H[q]? /\∀b ex rest,QX H q b ex rest l k->QX r.2 q b ex rest (iswp l i j) k:=by
 obtain⟨h1,h2,sv,h3,h4⟩:=id hQ;rw[linv1 hf (ld1 h3)];refine(hL _ H sv l i j h4 hi hj).mono ?_;rintro⟨v,H'⟩ ⟨e,g,g2,g4⟩;refine⟨e,⟨h1,fun i hi=>Nat.lt_of_lt_of_le (h2 i hi) g.1,sv,g.get (fun h=>h.2 rfl) h3,g2⟩,g.mono fun i hi=>hi.1,(g.get (fun h=>h.2 rfl) h3).trans h3.symm,fun b ex rest hx=> ?_⟩;have e1:=hx.hd;rw[h3]at e1;injection e1 with e1;injection e1 with e1 _;injection e1 with e1 _
 exact⟨by rw[g.get (fun h=>h.2 rfl) hx.hd,iswp_length],g4 b rest ex e1 hx.row,hx.ne⟩
theorem invLen (hf:invFind tbl t=some (f,1))(hL:ILenOk O f)(hQ:QOk P H q l k):linvV O H tbl (.iface t (.ptr q 0)) []=some (.int .i64 (l.length:Nat),H):=by
 obtain⟨h1,h2,sv,h3,h4⟩:=id hQ;rw[linv1 hf (ld1 h3)];exact hL _ H sv l h4
theorem tdiv2 (h:0<j):(((j:Nat):Int) - 1).tdiv 2=(((j - 1) / 2:Nat):Int):=by
 rw[Int.tdiv_eq_ediv_of_nonneg (by omega)];omega
def UpOk (O:Oracle)(t:Nat)(f:FuncId):Prop:=∀(P:Nat->Prop) (H:Heap) (q:Nat) (l:List It) (k:Int) (j:Nat),QOk P H q l k->j<l.length->l.length<=1000000->Wp (O f [.iface t (.ptr q 0),.int .i64 (j:Nat)] H) fun r=>r.1=.tuple []/\QOk P r.2 q (upL l.length l j) k/\Frame P H r.2/\r.2[q]? =H[q]?
theorem up_go {P:Nat->Prop}{q:Nat}{k:Int}{H0:Heap}(hL:LessOk O 203)(hS:SwapOk O 204):∀(n j:Nat) (l:List It) (H:Heap),QOk P H q l k->j<l.length->l.length<=1000000->Frame P H0 H->j<n ->
  Wp (cHpUpC0S cal O N (fun H=>some ((.tuple []),H)) n (.iface 196 (.ptr q 0)) (.int .i64 (j:Nat)) H) fun r=>r.1=.tuple []/\QOk P r.2 q (upL n l j) k/\Frame P H0 r.2/\r.2[q]? =H[q]?
 | 0,j,l,H,_,_,_,_,hn=>by omega
 | n+1,j,l,H,hQ,hj,hb,hk,hn=>by
  rw[cHpUpC0S];by_cases h0:j=0
  ·subst h0;have e1:lbin .sub (.int .i64 ((0:Nat):Int)) (.int .i64 1)=some (.int .i64 (-1)):=rfl;have e2:lbin .quo (.int .i64 (-1)) (.int .i64 2)=some (.int .i64 0):=rfl;have e3:lbin .eql (.int .i64 0) (.int .i64 ((0:Nat):Int))=some (.bool true):=rfl;rw[e1,ob_some,e2,ob_some,e3,ob_some];simp only[isB_tf,gq_false,ge_false,ob_some,lpick_true,cnd_true];refine Wp.ret ⟨rfl,?_,hk,rfl⟩;unfold upL;rw[if_pos rfl];exact hQ
  ·have e1:lbin .sub (.int .i64 (j:Nat)) (.int .i64 1)=some (.int .i64 ((j:Int) - 1)):=by rw[lbin_sub,wrap_i64 (by omega) (by omega)]
   have e2:lbin .quo (.int .i64 ((j:Int) - 1)) (.int .i64 2)=some (.int .i64 (((j - 1) / 2:Nat):Int)):=by rw[lbin_quo (by decide),tdiv2 (by omega),wrap_i64 (by omega) (by omega)]
   have e3:lbin .eql (.int .i64 (((j - 1) / 2:Nat):Int)) (.int .i64 (j:Nat))=some (.bool false):=by rw[lbin_eql,decide_eq_false (by omega)]
   rw[e1,ob_some,e2,ob_some,e3,ob_some];simp only[isB_ff,gq_true,ge_true,ob_some];refine Wp.call (invLess rfl hL hQ hj (show(j - 1) / 2<l.length by omega)) ?_;rintro⟨v,H1⟩ ⟨g1,g2,g3⟩;simp only at g1 g2 g3 ⊢;subst g1;rw[iun_not,ob_some,lpick_false,ob_some]
   cases ha:aheadAt l j ((j - 1) / 2)with
   | false =>
    rw[Bool.not_false,cnd_true];have hq0:H1[q]? =H[q]? :=by obtain⟨_,_,sv,h3,_⟩:=id hQ;exact(g3.get (fun h=>h) h3).trans h3.symm
    refine Wp.ret ⟨rfl,?_,hk.tr g3.no,hq0⟩;unfold upL;rw[if_neg h0,ha];exact g2
   | true =>
    rw[Bool.not_true,cnd_false];refine Wp.call (invSwap rfl hS g2 (show(j - 1) / 2<l.length by omega) hj) ?_;have hq0:H1[q]? =H[q]? :=by obtain⟨_,_,sv,h3,_⟩:=id hQ;exact(g3.get (fun h=>h) h3).trans h3.symm
    rintro⟨v,H2⟩ ⟨_,k2,k3,k4,_⟩;simp only at k2 k3 k4 ⊢;refine(up_go hL hS n ((j - 1) / 2) _ H2 k2 (by rw[iswp_length];omega) (by rw[iswp_length];exact hb) ((hk.tr g3.no).tr k3) (by omega)).mono ?_;rintro⟨v,H3⟩ ⟨m1,m2,m3,m4⟩;refine⟨m1,?_,m3,m4.trans (k4.trans hq0)⟩;unfold upL;rw[if_neg h0,ha];exact m2
theorem up_s (hL:LessOk O 203)(hS:SwapOk O 204)(hQ:QOk P H q l k)(hj:j<l.length)(hb:l.length<=1000000):Wp (cHpUpS cal O l.length (.iface 196 (.ptr q 0)) (.int .i64 (j:Nat)) H) fun r=>r.1=.tuple []/\QOk P r.2 q (upL l.length l j) k/\Frame P H r.2/\r.2[q]? =H[q]? :=by
 unfold cHpUpS cHpUpC1S;exact up_go hL hS l.length j l H hQ hj hb (Frame.refl _ _) hj
def DownOk (O:Oracle)(t:Nat)(f:FuncId):Prop:=∀(P:Nat->Prop) (H:Heap) (q:Nat) (l:List It) (k:Int) (i n:Nat),QOk P H q l k->n<=l.length->i<l.length->l.length<=1000000->Wp (O f [.iface t (.ptr q 0),.int .i64 (i:Nat),.int .i64 (n:Nat)] H) fun r=>(∃b,r.1=.bool b)/\QOk P r.2 q (dnL (l.length+1) l i n) k/\Frame P H r.2/\∀b ex rest,QX H q b ex rest l k->QX r.2 q b ex rest (dnL (l.length+1) l i n) k
theorem dnJ_lt {n:Nat}(h:2*i+1<n):dnJ l i n<n/\i<dnJ l i n:=by
 unfold dnJ;split<;>omega
theorem down_go {P:Nat->Prop}{q:Nat}{k:Int}{H0:Heap}{i0:Nat}(hL:LessOk O 203)(hS:SwapOk O 204):∀(f i n:Nat) (l:List It) (H:Heap),QOk P H q l k->i<l.length->n<=l.length->l.length<=1000000->Frame P H0 H->n<=i+f->0<f ->
  Wp (cHpDownC0S cal O N (fun v1 v7 H=>ob (lbin .gtr v7 v1) fun t1=>some (t1,H)) f (.iface 196 (.ptr q 0)) (.int .i64 (i0:Nat)) (.int .i64 (n:Nat)) (.int .i64 (i:Nat)) H) fun r=>(∃b,r.1=.bool b)/\QOk P r.2 q (dnL f l i n) k/\Frame P H0 r.2/\∀b ex rest,QX H q b ex rest l k->QX r.2 q b ex rest (dnL f l i n) k
 | 0,i,n,l,H,_,_,_,_,_,hn,h0=>by omega
 | f+1,i,n,l,H,hQ,hi,hl,hb,hk,hn,h0=>by
  rw[cHpDownC0S];have e1:lbin .mul (.int .i64 2) (.int .i64 (i:Nat))=some (.int .i64 ((2*i:Nat):Int)):=by rw[lbin_mul,wrap_i64 (by omega) (by omega)];congr 2
  have e2:lbin .add (.int .i64 ((2*i:Nat):Int)) (.int .i64 1)=some (.int .i64 ((2*i+1:Nat):Int)):=by rw[lbin_add,wrap_i64 (by omega) (by omega)];congr 2
  rw[e1,ob_some,e2,ob_some,lbin_geq,ob_some];by_cases h1:n<=2*i+1
  ·rw[decide_eq_true (by omega)];simp only[isB_tf,gq_false,ge_false,ob_some,lpick_true,cnd_true];rw[lbin_gtr,ob_some];refine Wp.ret ⟨⟨_,rfl⟩,?_,hk,fun b ex rest hx=> ?_⟩
   ·unfold dnL;rw[if_pos h1];exact hQ
   ·unfold dnL;rw[if_pos h1];exact hx
  ·rw[decide_eq_false (by omega)];have e3:lbin .lss (.int .i64 ((2*i+1:Nat):Int)) (.int .i64 0)=some (.bool false):=by rw[lbin_lss,decide_eq_false (by omega)]
   simp only[isB_ff,gq_true,ob_some,e3,lpick_false,cnd_false,jn_eq];have e4:lbin .add (.int .i64 ((2*i+1:Nat):Int)) (.int .i64 1)=some (.int .i64 ((2*i+2:Nat):Int)):=by rw[lbin_add,wrap_i64 (by omega) (by omega)];congr 2
   rw[e4,ob_some,lbin_lss,ob_some];have fin:∀(H1:Heap),QOk P H1 q l k->Frame P H0 H1->Frame NoF H H1->Wp (ob (linvV O H1 [(178,(203,0)),(196,(203,1))] (.iface 196 (.ptr q 0)) [.int .i64 (dnJ l i n:Nat),.int .i64 (i:Nat)]) fun r22 =>
     ob (iun .not r22.1) fun t23 =>
     cnd t23
     (ob (lbin .gtr (.int .i64 (i:Nat)) (.int .i64 (i0:Nat))) fun t1=>some (t1,r22.2))
     (ob (linvV O r22.2 [(178,(204,0)),(196,(204,1))] (.iface 196 (.ptr q 0)) [.int .i64 (i:Nat),.int .i64 (dnJ l i n:Nat)]) fun r24 =>
     cHpDownC0S cal O N (fun v1 v7 H=>ob (lbin .gtr v7 v1) fun t1=>some (t1,H)) f (.iface 196 (.ptr q 0)) (.int .i64 (i0:Nat)) (.int .i64 (n:Nat)) (.int .i64 (dnJ l i n:Nat)) r24.2)) fun r=>(∃b,r.1=.bool b)/\QOk P r.2 q (dnL (f+1) l i n) k/\Frame P H0 r.2/\∀b ex rest,QX H q b ex rest l k->QX r.2 q b ex rest (dnL (f+1) l i n) k:=by
    intro H1 q1 k1 kn;have hJ:=dnJ_lt (l:=l) (show 2*i+1<n by omega);refine Wp.call (invLess rfl hL q1 (show dnJ l i n<l.length by omega) hi) ?_;rintro⟨v,H2⟩ ⟨g1,g2,g3⟩;simp only at g1 g2 g3 ⊢;subst g1;rw[iun_not,ob_some]
    cases ha:aheadAt l (dnJ l i n) i with
    | false =>
     rw[Bool.not_false,cnd_true,lbin_gtr,ob_some];refine Wp.ret ⟨⟨_,rfl⟩,?_,k1.tr g3.no,fun b ex rest hx=> ?_⟩
     ·unfold dnL;rw[if_neg h1,ha];exact g2
     ·unfold dnL;rw[if_neg h1,ha];exact hx.frame (kn.tr g3)
    | true =>
     rw[Bool.not_true,cnd_false];refine Wp.call (invSwap rfl hS g2 hi (show dnJ l i n<l.length by omega)) ?_;rintro⟨v,H3⟩ ⟨_,k2,k3,_,k5⟩;simp only at k2 k3 k5 ⊢;refine(down_go hL hS f (dnJ l i n) n _ H3 k2 (by rw[iswp_length];omega) (by rw[iswp_length];exact hl) (by rw[iswp_length];exact hb) ((k1.tr g3.no).tr k3) (by omega) (by omega)).mono ?_;rintro⟨v,H4⟩ ⟨m1,m2,m3,m4⟩;refine⟨m1,?_,m3,fun b ex rest hx=> ?_⟩
     ·unfold dnL;rw[if_neg h1,ha];exact m2
     ·unfold dnL;rw[if_neg h1,ha];exact m4 b ex rest (k5 b ex rest (hx.frame (kn.tr g3)))
   by_cases h2:2*i+2<n
   ·rw[decide_eq_true (by omega)];simp only[isB_tt,gq_true,ge_true,ob_some];refine Wp.call (invLess rfl hL hQ (show 2*i+2<l.length by omega) (show 2*i+1<l.length by omega)) ?_;rintro⟨v,H1⟩ ⟨g1,g2,g3⟩;simp only at g1 g2 g3 ⊢;subst g1;rw[lpick_true,ob_some]
    cases ha:aheadAt l (2*i+2) (2*i+1)with
    | true =>
     rw[cnd_true];have hJ:dnJ l i n=2*i+2:=by unfold dnJ;rw[if_pos ⟨h2,ha⟩]
     rw[←hJ];exact fin H1 g2 (hk.tr g3.no) g3
    | false =>
     rw[cnd_false];have hJ:dnJ l i n=2*i+1:=by unfold dnJ;rw[if_neg (by rw[ha];simp)]
     rw[←hJ];exact fin H1 g2 (hk.tr g3.no) g3
   ·rw[decide_eq_false (by omega)];simp only[isB_ft,gq_false,ge_false,ob_some,lpick_false,cnd_false];have hJ:dnJ l i n=2*i+1:=by unfold dnJ;rw[if_neg (by omega)]
    rw[←hJ];exact fin H hQ hk (Frame.refl _ _)
theorem down_s {n:Nat}(hL:LessOk O 203)(hS:SwapOk O 204)(hQ:QOk P H q l k)(hl:n<=l.length)(hi:i<l.length)(hb:l.length<=1000000):Wp (cHpDownS cal O (l.length+1) (.iface 196 (.ptr q 0)) (.int .i64 (i:Nat)) (.int .i64 (n:Nat)) H) fun r=>(∃b,r.1=.bool b)/\QOk P r.2 q (dnL (l.length+1) l i n) k/\Frame P H r.2/\∀b ex rest,QX H q b ex rest l k->QX r.2 q b ex rest (dnL (l.length+1) l i n) k:=by
 unfold cHpDownS cHpDownC4S cHpDownC3S cHpDownC2S cHpDownC1S;exact down_go hL hS (l.length+1) i n l H hQ hi hl hb (Frame.refl _ _) (by omega) (by omega)
end
end Go.Shade
namespace Go.Shade
def X2K3 (f0:FuncId):LC:=.seq (.seq (.reg [ qM 14 5,qO 15 (.bin .leq (.t 14) (k6 200))]) (.cond (.t 15) .skip (.exit 0))) (.seq (.block 1 (.reg [ qM 18 4,qO 19 (.chk (.t 18)),qO 20 (.off (.t 19) 202),qO 21 (.ld1 (.t 20)),qM 22 5,qM 23 5,qO 24 (.callF f0 [(.t 21),(.t 22),(.t 23)])])) (.reg [ qM 16 5,qO 17 (.bin .add (.t 16) (k6 1)),qM 5 17]))
def branchNewC0 (f0 f1 f2 f3:FuncId):LC:=.loop (X2K3 f2)
def branchNewC1 (f0 f1 f2 f3:FuncId):LC:=.block 0 (branchNewC0 f0 f1 f2 f3)
def branchNewC2 (f0 f1 f2 f3:FuncId):LC:=.seq (.reg [ qO 5 (.mv (k6 2))]) (branchNewC1 f0 f1 f2 f3)
def X2K2 (f0:FuncId):LC:=.seq (.drw [ qM 25 4,qO 26 (.callF f0 []),qO 27 (.bld [(.int .i64 0),(.int .i64 0),(.int .i64 0),(.int .i64 0),(.int .i64 0),.nilPtr,.nilPtr,(.str [])] [(0,(1,(k6 2))),(1,(1,(k6 1))),(4,(1,(k6 1))),(6,(1,(.t 26)))]),qO 28 (.box (.t 27)),qO 29 (.chk (.t 25)),qO 30 (.off (.t 29) 1),qO 31 (.ixa 201 1 (.t 30) (k6 1)),⟨none,(.st 1 (.t 31) (.t 28)),none⟩] []) (.seq (.reg [ qM 32 4,qM 2 32]) .ret)
def branchNewC3 (f0 f1 f2 f3:FuncId):LC:=.seq (branchNewC2 f0 f1 f2 f3) (X2K2 f3)
def X2K0 (f0:FuncId):LC:=.reg [ qM 10 3,qO 11 (.callF f0 []),qO 12 (.bld [.nilPtr,.nilPtr,.nilPtr,.nilPtr,.nilPtr,.nilPtr,.nilPtr,.nilPtr,.nilPtr,.nilPtr,.nilPtr,.nilPtr,.nilPtr,.nilPtr,.nilPtr,.nilPtr,.nilPtr,.nilPtr,.nilPtr,.nilPtr,.nilPtr,.nilPtr,.nilPtr,.nilPtr,.nilPtr,.nilPtr,.nilPtr,.nilPtr,.nilPtr,.nilPtr,.nilPtr,.nilPtr,.nilPtr,.nilPtr,.nilPtr,.nilPtr,.nilPtr,.nilPtr,.nilPtr,.nilPtr,.nilPtr,.nilPtr,.nilPtr,.nilPtr,.nilPtr,.nilPtr,.nilPtr,.nilPtr,.nilPtr,.nilPtr,.nilPtr,.nilPtr,.nilPtr,.nilPtr,.nilPtr,.nilPtr,.nilPtr,.nilPtr,.nilPtr,.nilPtr,.nilPtr,.nilPtr,.nilPtr,.nilPtr,.nilPtr,.nilPtr,.nilPtr,.nilPtr,.nilPtr,.nilPtr,.nilPtr,.nilPtr,.nilPtr,.nilPtr,.nilPtr,.nilPtr,.nilPtr,.nilPtr,.nilPtr,.nilPtr,.nilPtr,.nilPtr,.nilPtr,.nilPtr,.nilPtr,.nilPtr,.nilPtr,.nilPtr,.nilPtr,.nilPtr,.nilPtr,.nilPtr,.nilPtr,.nilPtr,.nilPtr,.nilPtr,.nilPtr,.nilPtr,.nilPtr,.nilPtr,.nilPtr,.nilPtr,.nilPtr,.nilPtr,.nilPtr,.nilPtr,.nilPtr,.nilPtr,.nilPtr,.nilPtr,.nilPtr,.nilPtr,.nilPtr,.nilPtr,.nilPtr,.nilPtr,.nilPtr,.nilPtr,.nilPtr,.nilPtr,.nilPtr,.nilPtr,.nilPtr,.nilPtr,.nilPtr,.nilPtr,.nilPtr,.nilPtr,.nilPtr,.nilPtr,.nilPtr,.nilPtr,.nilPtr,.nilPtr,.nilPtr,.nilPtr,.nilPtr,.nilPtr,.nilPtr,.nilPtr,.nilPtr,.nilPtr,.nilPtr,.nilPtr,.nilPtr,.nilPtr,.nilPtr,.nilPtr,.nilPtr,.nilPtr,.nilPtr,.nilPtr,.nilPtr,.nilPtr,.nilPtr,.nilPtr,.nilPtr,.nilPtr,.nilPtr,.nilPtr,.nilPtr,.nilPtr,.nilPtr,.nilPtr,.nilPtr,.nilPtr,.nilPtr,.nilPtr,.nilPtr,.nilPtr,.nilPtr,.nilPtr,.nilPtr,.nilPtr,.nilPtr,.nilPtr,.nilPtr,.nilPtr,.nilPtr,.nilPtr,.nilPtr,.nilPtr,.nilPtr,.nilPtr,.nilPtr,.nilPtr,.nilPtr,.nilPtr,.nilPtr,.nilPtr,.nilPtr,.nilPtr,.nilPtr,.nilPtr,.nilPtr,.nilPtr,.nilPtr,.nilPtr,.nilPtr,.nilPtr,.nilPtr,.nilPtr,.nilPtr] [(0,(1,(.t 10))),(202,(1,(.t 11)))]),qO 13 (.box (.t 12)),qM 4 13]
def branchNewC4 (f0 f1 f2 f3:FuncId):LC:=.seq (X2K0 f1) (branchNewC3 f0 f1 f2 f3)
def X2K4 :LC:=.seq (.reg [ qM 8 3,qO 9 (.eqv false .ptr (.t 8) (.k .nilPtr))]) (.cond (.t 9) (.seq (.reg [ qO 2 (.mv (.k .nilPtr))]) .ret) .skip)
def branchNewC5 (f0 f1 f2 f3:FuncId):LC:=.seq X2K4 (branchNewC4 f0 f1 f2 f3)
def X2K5 (f0:FuncId):LC:=.reg [ qM 6 0,qO 7 (.callF f0 [(.t 6)]),qM 3 7]
def branchNewC6 (f0 f1 f2 f3:FuncId):LC:=.seq (X2K5 f0) (branchNewC5 f0 f1 f2 f3)
def branchNewC7 (f0 f1 f2 f3:FuncId):LC:=.seq (.reg [ qO 2 (.mv (.k .nilPtr))]) (branchNewC6 f0 f1 f2 f3)
def branchNewC0S (cal:CB)(O:Oracle)(N:Nat)(f0 f1 f2 f3:FuncId)(gE0:IV->Heap->OH):Nat->IV->IV->Heap->OH
 | 0,_,_,_=>none
 | n+1,v4,v5,H =>ob (lbin .leq v5 (.int .i64 200)) fun t1 =>cnd t1
  (ob (lchk v4) fun t2 =>ob (loff t2 202) fun t3 =>ob (lload1 H t3) fun t4 =>ob (O f2 [t4,v5,v5] H) fun r5 =>ob (lbin .add v5 (.int .i64 1)) fun t6 =>
   branchNewC0S cal O N f0 f1 f2 f3 gE0 n v4 t6 r5.2)
  (gE0 v4 H)
theorem branchNewC0Eq (cal:CB)(O:Oracle)(N:Nat)(f0 f1 f2 f3:FuncId){k:KT (IV×Heap)}(gE0:IV->Heap->OH)(hgE0:∀E H,k (.exit 0) E H=gE0 (lk E 4) H):∀(n:Nat) (E:Sg) (H:Heap),itK (lxK cal O N (X2K3 f2)) n E H k=branchNewC0S cal O N f0 f1 f2 f3 gE0 n (lk E 4) (lk E 5) H:=by
 have hk:k=(kE 0 (fun E H=>gE0 (lk E 4) H) k):=(kE_mk hgE0 rfl);intro n
 induction n with
 | zero=>intro E H;rfl
 | succ n ih =>
  intro E H;rw[itK_succ,seqK_mk (g:=fun E H=>branchNewC0S cal O N f0 f1 f2 f3 gE0 n (lk E 4) (lk E 5) H) ih,hk];kernel_rfl
def branchNewC1S (cal:CB)(O:Oracle)(N:Nat)(f0 f1 f2 f3:FuncId)(gN:IV->Heap->OH)(v4 v5:IV)(H:Heap):OH :=
  branchNewC0S cal O N f0 f1 f2 f3 (fun v4 H=>gN v4 H) N v4 v5 H
theorem branchNewC1Eq (cal:CB)(O:Oracle)(N:Nat)(f0 f1 f2 f3:FuncId){k:KT (IV×Heap)}(gN:IV->Heap->OH)(hgN:∀E H,k .normal E H=gN (lk E 4) H):∀(E:Sg) (H:Heap),lxK cal O N (branchNewC1 f0 f1 f2 f3) E H k=branchNewC1S cal O N f0 f1 f2 f3 gN (lk E 4) (lk E 5) H:=by
 have hk:k=(kN (fun E H=>gN (lk E 4) H) k):=(kN_mk hgN rfl);intro E H;rw[hk];show lxK cal O N (branchNewC0 f0 f1 f2 f3) E H (blockK 0 (kN (fun E H=>gN (lk E 4) H) k))=_;exact branchNewC0Eq cal O N f0 f1 f2 f3 (k:=(blockK 0 (kN (fun E H=>gN (lk E 4) H) k))) gN (fun _ _=>rfl) N E H
def branchNewC2S (cal:CB)(O:Oracle)(N:Nat)(f0 f1 f2 f3:FuncId)(gN:IV->Heap->OH)(v4:IV)(H:Heap):OH :=
  branchNewC1S cal O N f0 f1 f2 f3 (fun v4 H=>gN v4 H) v4 (.int .i64 2) H
theorem branchNewC2Eq (cal:CB)(O:Oracle)(N:Nat)(f0 f1 f2 f3:FuncId){k:KT (IV×Heap)}(gN:IV->Heap->OH)(hgN:∀E H,k .normal E H=gN (lk E 4) H):∀(E:Sg) (H:Heap),lxK cal O N (branchNewC2 f0 f1 f2 f3) E H k=branchNewC2S cal O N f0 f1 f2 f3 gN (lk E 4) H:=by
 have hk:k=(kN (fun E H=>gN (lk E 4) H) k):=(kN_mk hgN rfl);intro E H;rw[hk];show lxK cal O N (.reg [ qO 5 (.mv (k6 2))]) E H (seqK (lxK cal O N (branchNewC1 f0 f1 f2 f3)) (kN (fun E H=>gN (lk E 4) H) k))=_;rw[seqK_mk (g:=fun E H=>branchNewC1S cal O N f0 f1 f2 f3 gN (lk E 4) (lk E 5) H) (branchNewC1Eq cal O N f0 f1 f2 f3 (k:=(kN (fun E H=>gN (lk E 4) H) k)) gN (fun _ _=>rfl))];kernel_rfl
def branchNewC3S (cal:CB)(O:Oracle)(N:Nat)(f0 f1 f2 f3:FuncId)(v4:IV)(H:Heap):OH :=
  branchNewC2S cal O N f0 f1 f2 f3 (fun v4 H=>ob (O f3 [] H) fun r1 =>ob (lbld [(.int .i64 0),(.int .i64 0),(.int .i64 0),(.int .i64 0),(.int .i64 0),.nilPtr,.nilPtr,(.str [])] [(0,1,(.int .i64 2)),(1,1,(.int .i64 1)),(4,1,(.int .i64 1)),(6,1,r1.1)]) fun t2 =>ob (lbox r1.2 t2) fun r3 =>ob (lchk v4) fun t4 =>ob (loff t4 1) fun t5 =>ob (lixa 201 1 t5 (.int .i64 1)) fun t6 =>ob (lstV r3.2 1 t6 r3.1) fun r7 =>some (v4,r7.2)) v4 H
theorem branchNewC3Eq (cal:CB)(O:Oracle)(N:Nat)(f0 f1 f2 f3:FuncId){k:KT (IV×Heap)}(hR:∀E H,k .ret E H=resK [(.tmp 2)] [] E H):∀(E:Sg) (H:Heap),lxK cal O N (branchNewC3 f0 f1 f2 f3) E H k=branchNewC3S cal O N f0 f1 f2 f3 (lk E 4) H:=by
 have hk:k=(kR (resK [(.tmp 2)] []) k):=(kR_mk hR rfl);intro E H;rw[hk];show lxK cal O N (branchNewC2 f0 f1 f2 f3) E H (seqK (lxK cal O N (X2K2 f3)) (kR (resK [(.tmp 2)] []) k))=_;exact branchNewC2Eq cal O N f0 f1 f2 f3 (k:=(seqK (lxK cal O N (X2K2 f3)) (kR (resK [(.tmp 2)] []) k))) (fun v4 H=>ob (O f3 [] H) fun r1 =>ob (lbld [(.int .i64 0),(.int .i64 0),(.int .i64 0),(.int .i64 0),(.int .i64 0),.nilPtr,.nilPtr,(.str [])] [(0,1,(.int .i64 2)),(1,1,(.int .i64 1)),(4,1,(.int .i64 1)),(6,1,r1.1)]) fun t2 =>ob (lbox r1.2 t2) fun r3 =>ob (lchk v4) fun t4 =>ob (loff t4 1) fun t5 =>ob (lixa 201 1 t5 (.int .i64 1)) fun t6 =>ob (lstV r3.2 1 t6 r3.1) fun r7 =>some (v4,r7.2)) (fun _ _=>rfl) E H
def branchNewC4S (cal:CB)(O:Oracle)(N:Nat)(f0 f1 f2 f3:FuncId)(v3:IV)(H:Heap):OH :=
 ob (O f1 [] H) fun r1 =>ob (lbld [.nilPtr,.nilPtr,.nilPtr,.nilPtr,.nilPtr,.nilPtr,.nilPtr,.nilPtr,.nilPtr,.nilPtr,.nilPtr,.nilPtr,.nilPtr,.nilPtr,.nilPtr,.nilPtr,.nilPtr,.nilPtr,.nilPtr,.nilPtr,.nilPtr,.nilPtr,.nilPtr,.nilPtr,.nilPtr,.nilPtr,.nilPtr,.nilPtr,.nilPtr,.nilPtr,.nilPtr,.nilPtr,.nilPtr,.nilPtr,.nilPtr,.nilPtr,.nilPtr,.nilPtr,.nilPtr,.nilPtr,.nilPtr,.nilPtr,.nilPtr,.nilPtr,.nilPtr,.nilPtr,.nilPtr,.nilPtr,.nilPtr,.nilPtr,.nilPtr,.nilPtr,.nilPtr,.nilPtr,.nilPtr,.nilPtr,.nilPtr,.nilPtr,.nilPtr,.nilPtr,.nilPtr,.nilPtr,.nilPtr,.nilPtr,.nilPtr,.nilPtr,.nilPtr,.nilPtr,.nilPtr,.nilPtr,.nilPtr,.nilPtr,.nilPtr,.nilPtr,.nilPtr,.nilPtr,.nilPtr,.nilPtr,.nilPtr,.nilPtr,.nilPtr,.nilPtr,.nilPtr,.nilPtr,.nilPtr,.nilPtr,.nilPtr,.nilPtr,.nilPtr,.nilPtr,.nilPtr,.nilPtr,.nilPtr,.nilPtr,.nilPtr,.nilPtr,.nilPtr,.nilPtr,.nilPtr,.nilPtr,.nilPtr,.nilPtr,.nilPtr,.nilPtr,.nilPtr,.nilPtr,.nilPtr,.nilPtr,.nilPtr,.nilPtr,.nilPtr,.nilPtr,.nilPtr,.nilPtr,.nilPtr,.nilPtr,.nilPtr,.nilPtr,.nilPtr,.nilPtr,.nilPtr,.nilPtr,.nilPtr,.nilPtr,.nilPtr,.nilPtr,.nilPtr,.nilPtr,.nilPtr,.nilPtr,.nilPtr,.nilPtr,.nilPtr,.nilPtr,.nilPtr,.nilPtr,.nilPtr,.nilPtr,.nilPtr,.nilPtr,.nilPtr,.nilPtr,.nilPtr,.nilPtr,.nilPtr,.nilPtr,.nilPtr,.nilPtr,.nilPtr,.nilPtr,.nilPtr,.nilPtr,.nilPtr,.nilPtr,.nilPtr,.nilPtr,.nilPtr,.nilPtr,.nilPtr,.nilPtr,.nilPtr,.nilPtr,.nilPtr,.nilPtr,.nilPtr,.nilPtr,.nilPtr,.nilPtr,.nilPtr,.nilPtr,.nilPtr,.nilPtr,.nilPtr,.nilPtr,.nilPtr,.nilPtr,.nilPtr,.nilPtr,.nilPtr,.nilPtr,.nilPtr,.nilPtr,.nilPtr,.nilPtr,.nilPtr,.nilPtr,.nilPtr,.nilPtr,.nilPtr,.nilPtr,.nilPtr,.nilPtr,.nilPtr,.nilPtr,.nilPtr,.nilPtr,.nilPtr,.nilPtr,.nilPtr,.nilPtr,.nilPtr,.nilPtr,.nilPtr] [(0,1,v3),(202,1,r1.1)]) fun t2 =>ob (lbox r1.2 t2) fun r3 =>
  branchNewC3S cal O N f0 f1 f2 f3 r3.1 r3.2
theorem branchNewC4Eq (cal:CB)(O:Oracle)(N:Nat)(f0 f1 f2 f3:FuncId){k:KT (IV×Heap)}(hR:∀E H,k .ret E H=resK [(.tmp 2)] [] E H):∀(E:Sg) (H:Heap),lxK cal O N (branchNewC4 f0 f1 f2 f3) E H k=branchNewC4S cal O N f0 f1 f2 f3 (lk E 3) H:=by
 have hk:k=(kR (resK [(.tmp 2)] []) k):=(kR_mk hR rfl);intro E H;rw[hk];show lxK cal O N (X2K0 f1) E H (seqK (lxK cal O N (branchNewC3 f0 f1 f2 f3)) (kR (resK [(.tmp 2)] []) k))=_;rw[seqK_mk (g:=fun E H=>branchNewC3S cal O N f0 f1 f2 f3 (lk E 4) H) (branchNewC3Eq cal O N f0 f1 f2 f3 (k:=(kR (resK [(.tmp 2)] []) k)) (fun _ _=>rfl))];kernel_rfl
def branchNewC5S (cal:CB)(O:Oracle)(N:Nat)(f0 f1 f2 f3:FuncId)(v3:IV)(H:Heap):OH :=
 ob (leqv false (leq .ptr v3 .nilPtr)) fun t1 =>cnd t1
 (some (.nilPtr,H))
  (branchNewC4S cal O N f0 f1 f2 f3 v3 H)
theorem branchNewC5Eq (cal:CB)(O:Oracle)(N:Nat)(f0 f1 f2 f3:FuncId){k:KT (IV×Heap)}(hR:∀E H,k .ret E H=resK [(.tmp 2)] [] E H):∀(E:Sg) (H:Heap),lxK cal O N (branchNewC5 f0 f1 f2 f3) E H k=branchNewC5S cal O N f0 f1 f2 f3 (lk E 3) H:=by
 have hk:k=(kR (resK [(.tmp 2)] []) k):=(kR_mk hR rfl);intro E H;rw[hk];show lxK cal O N X2K4 E H (seqK (lxK cal O N (branchNewC4 f0 f1 f2 f3)) (kR (resK [(.tmp 2)] []) k))=_;rw[seqK_mk (g:=fun E H=>branchNewC4S cal O N f0 f1 f2 f3 (lk E 3) H) (branchNewC4Eq cal O N f0 f1 f2 f3 (k:=(kR (resK [(.tmp 2)] []) k)) (fun _ _=>rfl))];kernel_rfl
def branchNewC6S (cal:CB)(O:Oracle)(N:Nat)(f0 f1 f2 f3:FuncId)(v0:IV)(H:Heap):OH :=
 ob (O f0 [v0] H) fun r1 =>
  branchNewC5S cal O N f0 f1 f2 f3 r1.1 r1.2
theorem branchNewC6Eq (cal:CB)(O:Oracle)(N:Nat)(f0 f1 f2 f3:FuncId){k:KT (IV×Heap)}(hR:∀E H,k .ret E H=resK [(.tmp 2)] [] E H):∀(E:Sg) (H:Heap),lxK cal O N (branchNewC6 f0 f1 f2 f3) E H k=branchNewC6S cal O N f0 f1 f2 f3 (lk E 0) H:=by
 have hk:k=(kR (resK [(.tmp 2)] []) k):=(kR_mk hR rfl);intro E H;rw[hk];show lxK cal O N (X2K5 f0) E H (seqK (lxK cal O N (branchNewC5 f0 f1 f2 f3)) (kR (resK [(.tmp 2)] []) k))=_;rw[seqK_mk (g:=fun E H=>branchNewC5S cal O N f0 f1 f2 f3 (lk E 3) H) (branchNewC5Eq cal O N f0 f1 f2 f3 (k:=(kR (resK [(.tmp 2)] []) k)) (fun _ _=>rfl))];kernel_rfl
def branchNewC7S (cal:CB)(O:Oracle)(N:Nat)(f0 f1 f2 f3:FuncId)(v0:IV)(H:Heap):OH :=
  branchNewC6S cal O N f0 f1 f2 f3 v0 H
theorem branchNewC7Eq (cal:CB)(O:Oracle)(N:Nat)(f0 f1 f2 f3:FuncId){k:KT (IV×Heap)}(hR:∀E H,k .ret E H=resK [(.tmp 2)] [] E H):∀(E:Sg) (H:Heap),lxK cal O N (branchNewC7 f0 f1 f2 f3) E H k=branchNewC7S cal O N f0 f1 f2 f3 (lk E 0) H:=by
 have hk:k=(kR (resK [(.tmp 2)] []) k):=(kR_mk hR rfl);intro E H;rw[hk];show lxK cal O N (.reg [ qO 2 (.mv (.k .nilPtr))]) E H (seqK (lxK cal O N (branchNewC6 f0 f1 f2 f3)) (kR (resK [(.tmp 2)] []) k))=_;rw[seqK_mk (g:=fun E H=>branchNewC6S cal O N f0 f1 f2 f3 (lk E 0) H) (branchNewC6Eq cal O N f0 f1 f2 f3 (k:=(kR (resK [(.tmp 2)] []) k)) (fun _ _=>rfl))];kernel_rfl
def branchNew (f0 f1 f2 f3:FuncId):LFun:=⟨(branchNewC7 f0 f1 f2 f3),[(.tmp 2)],33⟩
def branchNewS (cal:CB)(O:Oracle)(N:Nat)(f0 f1 f2 f3:FuncId)(v0:IV)(H:Heap):OH :=
  branchNewC7S cal O N f0 f1 f2 f3 v0 H
theorem branchNewEq (cal:CB)(O:Oracle)(N:Nat)(f0 f1 f2 f3:FuncId)(v0:IV)(H:Heap):lrunK cal O N (branchNew f0 f1 f2 f3) [v0] H=branchNewS cal O N f0 f1 f2 f3 v0 H:=by
 show lxK cal O N (branchNewC7 f0 f1 f2 f3) (initFrom 0 [v0]) H (endK [(.tmp 2)])=_;exact branchNewC7Eq cal O N f0 f1 f2 f3 (k:=(endK [(.tmp 2)])) (fun _ _=>rfl) (initFrom 0 [v0]) H
def blockNewS (cal:CB)(O:Oracle)(N:Nat)(v0:IV)(H:Heap):OH :=
 ob (lbin .lss v0 (.int .i64 0)) fun t1 =>ob (gq (isB t1 false) (some v0)) fun t2 =>ob (gq (isB t1 false) (lbin .gtr t2 (.int .i64 65536))) fun t3 =>ob (lpick t1 (.bool true) t3) fun t4 =>cnd t4
 (some (.nilPtr,H))
 (ob (lbld [(.int .i64 0),(.int .i64 0)] [(0,1,v0)]) fun t5 =>ob (lbox H t5) fun r6 =>some (r6.1,r6.2))
def dentsNewS (cal:CB)(O:Oracle)(N:Nat)(H:Heap):OH :=
 ob (lbld [.nilSlice] []) fun t1 =>ob (lbox H t1) fun r2 =>some (r2.1,r2.2)
def QiAheadS (cal:CB)(O:Oracle)(N:Nat)(v0 v1:IV)(H:Heap):OH :=
 ob (lbox H v0) fun r1 =>ob (lbox r1.2 v1) fun r2 =>ob (loff r1.1 0) fun t3 =>ob (lload1 r2.2 t3) fun t4 =>ob (loff r2.1 0) fun t5 =>ob (lload1 r2.2 t5) fun t6 =>ob (lbin .neq t4 t6) fun t7 =>cnd t7
 (ob (loff r1.1 0) fun t8 =>ob (lload1 r2.2 t8) fun t9 =>ob (loff r2.1 0) fun t10 =>ob (lload1 r2.2 t10) fun t11 =>ob (lbin .lss t9 t11) fun t12 =>some (t12,r2.2))
 (ob (loff r1.1 2) fun t13 =>ob (lload1 r2.2 t13) fun t14 =>ob (loff r2.1 2) fun t15 =>ob (lload1 r2.2 t15) fun t16 =>ob (lbin .lss t14 t16) fun t17 =>some (t17,r2.2))
def QqPopS (cal:CB)(O:Oracle)(N:Nat)(f0 f1:FuncId)(v0:IV)(H:Heap):OH :=
 ob (O f0 [v0] H) fun r1 =>ob (lbin .eql r1.1 (.int .i64 0)) fun t2 =>cnd t2
 (some ((.tuple [(.int .i64 0),(.int .i64 0),(.bool false)]),r1.2))
 (ob (lchk v0) fun t3 =>ob (loff t3 0) fun t4 =>ob (some (.iface 196 t4)) fun t5 =>ob (O f1 [t5] r1.2) fun r6 =>ob (lasrt 198 (.agg [(.int .i64 0),(.int .i64 0),(.int .i64 0)]) false r6.1) fun t7 =>ob (lzbox r6.2 (.agg [(.int .i64 0),(.int .i64 0),(.int .i64 0)])) fun r8 =>ob (lstV r8.2 3 r8.1 t7) fun r9 =>ob (loff r8.1 0) fun t10 =>ob (lload1 r9.2 t10) fun t11 =>ob (loff r8.1 1) fun t12 =>ob (lload1 r9.2 t12) fun t13 =>some ((.tuple [t11,t13,(.bool true)]),r9.2))
def BbAtS (cal:CB)(O:Oracle)(N:Nat)(v0 v1:IV)(H:Heap):OH :=
 ob (lbin .lss v1 (.int .i64 1)) fun t1 =>ob (gq (isB t1 false) (some v1)) fun t2 =>ob (gq (isB t1 false) (lbin .gtr t2 (.int .i64 200))) fun t3 =>ob (lpick t1 (.bool true) t3) fun t4 =>cnd t4
 (some (.nilPtr,H))
 (ob (lchk v0) fun t5 =>ob (loff t5 1) fun t6 =>ob (lixa 201 1 t6 v1) fun t7 =>ob (lload1 H t7) fun t8 =>some (t8,H))
def BbKindS (cal:CB)(O:Oracle)(N:Nat)(f0:FuncId)(v0 v1:IV)(H:Heap):OH :=
 ob (O f0 [v0,v1] H) fun r1 =>ob (leqv true (leq .ptr r1.1 .nilPtr)) fun t2 =>cnd t2
 (ob (lchk r1.1) fun t3 =>ob (loff t3 0) fun t4 =>ob (lload1 r1.2 t4) fun t5 =>some (t5,r1.2))
 (some ((.int .i64 0),r1.2))
def BbMarksS (cal:CB)(O:Oracle)(N:Nat)(f0:FuncId)(v0 v1:IV)(H:Heap):OH :=
 ob (O f0 [v0,v1] H) fun r1 =>ob (leqv true (leq .ptr r1.1 .nilPtr)) fun t2 =>cnd t2
 (ob (lchk r1.1) fun t3 =>ob (loff t3 3) fun t4 =>ob (lload1 r1.2 t4) fun t5 =>some (t5,r1.2))
 (some ((.int .i64 0),r1.2))
def BbMarkS (cal:CB)(O:Oracle)(N:Nat)(f0:FuncId)(v0 v1 v2:IV)(H:Heap):OH :=
 ob (O f0 [v0,v1] H) fun r1 =>ob (leqv false (leq .ptr r1.1 .nilPtr)) fun t2 =>cnd t2
 (some ((.int .i64 2),r1.2))
 (ob (lchk r1.1) fun t3 =>ob (loff t3 3) fun t4 =>ob (lstV r1.2 1 t4 v2) fun r5 =>some ((.int .i64 0),r5.2))
def BbDirS (cal:CB)(O:Oracle)(N:Nat)(f0:FuncId)(v0 v1:IV)(H:Heap):OH :=
 ob (O f0 [v0,v1] H) fun r1 =>ob (leqv false (leq .ptr r1.1 .nilPtr)) fun t2 =>cnd t2
 (some ((.tuple [.nilPtr,(.int .i64 2)]),r1.2))
 (ob (lchk r1.1) fun t3 =>ob (loff t3 0) fun t4 =>ob (lload1 r1.2 t4) fun t5 =>ob (lbin .neq t5 (.int .i64 2)) fun t6 =>cnd t6
 (some ((.tuple [.nilPtr,(.int .i64 20)]),r1.2))
 (some ((.tuple [r1.1,(.int .i64 0)]),r1.2)))
def BbChangedS (cal:CB)(O:Oracle)(N:Nat)(f0:FuncId)(v0 v1:IV)(H:Heap):OH :=
 ob (O f0 [v0,v1] H) fun r1 =>ob (iextract r1.1 0) fun t2 =>ob (iextract r1.1 1) fun t3 =>ob (lbin .eql t3 (.int .i64 0)) fun t4 =>ob (gq (isB t4 true) (some t2)) fun t5 =>ob (gq (isB t4 true) (lchk t5)) fun t6 =>ob (gq (isB t4 true) (loff t6 1)) fun t7 =>ob (gq (isB t4 true) (lload1 r1.2 t7)) fun t8 =>ob (gq (isB t4 true) (lbin .eql t8 (.int .i64 0))) fun t9 =>ob (lpick t4 t9 (.bool false)) fun t10 =>cnd t10
 (some ((.tuple [.nilPtr,(.int .i64 2)]),r1.2))
 (some ((.tuple [t2,t3]),r1.2))
def branchSettableS (cal:CB)(O:Oracle)(N:Nat)(f0:FuncId)(v0:IV)(H:Heap):OH :=
 ob (O f0 [v0] H) fun r1 =>ob (lbin .neq r1.1 (.int .i64 0)) fun t2 =>cnd t2
 (some (r1.1,r1.2))
 (ob (lbin .eql v0 (.str [46])) fun t3 =>ob (gq (isB t3 false) (some v0)) fun t4 =>ob (gq (isB t3 false) (lbin .eql t4 (.str [46,46]))) fun t5 =>ob (lpick t3 (.bool true) t5) fun t6 =>cnd t6
 (some ((.int .i64 22),r1.2))
 (some ((.int .i64 0),r1.2)))
def BbVacantS (cal:CB)(O:Oracle)(N:Nat)(f0 f1 f2:FuncId)(v0 v1 v2:IV)(H:Heap):OH :=
 ob (O f0 [v0,v1] H) fun r1 =>ob (iextract r1.1 0) fun t2 =>ob (iextract r1.1 1) fun t3 =>ob (lbin .neq t3 (.int .i64 0)) fun t4 =>cnd t4
 (some ((.tuple [.nilPtr,t3]),r1.2))
 (ob (O f1 [v2] r1.2) fun r5 =>ob (lbin .neq r5.1 (.int .i64 0)) fun t6 =>cnd t6
 (some ((.tuple [.nilPtr,r5.1]),r5.2))
 (ob (lchk t2) fun t7 =>ob (loff t7 6) fun t8 =>ob (lload1 r5.2 t8) fun t9 =>ob (O f2 [t9,v2] r5.2) fun r10 =>ob (iextract r10.1 0) fun t11 =>ob (iextract r10.1 1) fun t12 =>ob (lbin .eql t12 (.int .i64 0)) fun t13 =>cnd t13
 (some ((.tuple [.nilPtr,(.int .i64 17)]),r10.2))
 (some ((.tuple [t2,(.int .i64 0)]),r10.2))))
def BbGetS (cal:CB)(O:Oracle)(N:Nat)(f0 f1:FuncId)(v0 v1 v2:IV)(H:Heap):OH :=
 ob (O f0 [v0,v1] H) fun r1 =>ob (iextract r1.1 0) fun t2 =>ob (iextract r1.1 1) fun t3 =>ob (lbin .neq t3 (.int .i64 0)) fun t4 =>cnd t4
 (some ((.tuple [(.int .i64 0),t3]),r1.2))
 (ob (lchk t2) fun t5 =>ob (loff t5 6) fun t6 =>ob (lload1 r1.2 t6) fun t7 =>ob (O f1 [t7,v2] r1.2) fun r8 =>ob (iextract r8.1 0) fun t9 =>ob (iextract r8.1 1) fun t10 =>some ((.tuple [t9,t10]),r8.2))
def BbNamedS (cal:CB)(O:Oracle)(N:Nat)(f0 f1:FuncId)(v0 v1 v2:IV)(H:Heap):OH :=
 ob (O f0 [v0,v1] H) fun r1 =>ob (iextract r1.1 0) fun t2 =>ob (iextract r1.1 1) fun t3 =>ob (lbin .neq t3 (.int .i64 0)) fun t4 =>cnd t4
 (some ((.tuple [.nilPtr,(.int .i64 0),t3]),r1.2))
 (ob (lchk t2) fun t5 =>ob (loff t5 6) fun t6 =>ob (lload1 r1.2 t6) fun t7 =>ob (O f1 [t7,v2] r1.2) fun r8 =>ob (iextract r8.1 0) fun t9 =>ob (iextract r8.1 1) fun t10 =>some ((.tuple [t2,t9,t10]),r8.2))
def BbMakeS (cal:CB)(O:Oracle)(N:Nat)(f0 f1 f2 f3 f4:FuncId)(v0 v1 v2 v3 v4:IV)(H:Heap):OH :=
 ob (O f0 [v0,v1,v2] H) fun r1 =>ob (iextract r1.1 0) fun t2 =>ob (iextract r1.1 1) fun t3 =>ob (lbin .neq t3 (.int .i64 0)) fun t4 =>cnd t4
 (some ((.tuple [(.int .i64 0),t3]),r1.2))
 (ob (lbin .lss v3 (.int .i64 1)) fun t5 =>ob (gq (isB t5 false) (some v3)) fun t6 =>ob (gq (isB t5 false) (lbin .gtr t6 (.int .i64 4))) fun t7 =>ob (lpick t5 (.bool true) t7) fun t8 =>ob (gq (isB t8 false) (some v4)) fun t9 =>ob (gq (isB t8 false) (lbin .neq t9 (.str []))) fun t10 =>ob (gq (isB t8 false) (some v3)) fun t11 =>ob (gq (isB t8 false) (lbin .eql t11 (.int .i64 3))) fun t12 =>ob (gq (isB t8 false) (leqv true (leq .bool t10 t12))) fun t13 =>ob (lpick t8 (.bool true) t13) fun t14 =>ob (gq (isB t14 false) (some v4)) fun t15 =>ob (gq (isB t14 false) (llen r1.2 .str t15)) fun t16 =>ob (gq (isB t14 false) (lbin .gtr t16 (.int .i64 400))) fun t17 =>ob (lpick t14 (.bool true) t17) fun t18 =>cnd t18
 (some ((.tuple [(.int .i64 0),(.int .i64 22)]),r1.2))
 (ob (lchk v0) fun t19 =>ob (loff t19 202) fun t20 =>ob (lload1 r1.2 t20) fun t21 =>ob (O f1 [t21] r1.2) fun r22 =>ob (iextract r22.1 0) fun t23 =>ob (iextract r22.1 1) fun t24 =>ob (iextract r22.1 2) fun t25 =>ob (iun .not t25) fun t26 =>cnd t26
 (some ((.tuple [(.int .i64 0),(.int .i64 28)]),r22.2))
 (ob (lbld [(.int .i64 0),(.int .i64 0),(.int .i64 0),(.int .i64 0),(.int .i64 0),.nilPtr,.nilPtr,(.str [])] [(0,1,v3),(1,1,(.int .i64 1)),(7,1,v4)]) fun t27 =>ob (lbox r22.2 t27) fun r28 =>jn (fun(H50:Heap) =>ob (lchk v0) fun t51 =>ob (loff t51 1) fun t52 =>ob (lixa 201 1 t52 t24) fun t53 =>ob (lstV H50 1 t53 r28.1) fun r54 =>ob (lchk t2) fun t55 =>ob (loff t55 6) fun t56 =>ob (lload1 r54.2 t56) fun t57 =>ob (O f4 [t57,v2,t24] r54.2) fun r58 =>some ((.tuple [t24,(.int .i64 0)]),r58.2)) fun J29 =>ob (lbin .eql v3 (.int .i64 1)) fun t59 =>cnd t59
 (ob (lchk v0) fun t60 =>ob (loff t60 0) fun t61 =>ob (lload1 r28.2 t61) fun t62 =>ob (O f2 [t62] r28.2) fun r63 =>ob (lchk r28.1) fun t64 =>ob (loff t64 5) fun t65 =>ob (lstV r63.2 1 t65 r63.1) fun r66 =>J29 r66.2)
 (ob (lbin .eql v3 (.int .i64 2)) fun t67 =>cnd t67
 (ob (O f3 [] r28.2) fun r68 =>ob (lchk r28.1) fun t69 =>ob (loff t69 6) fun t70 =>ob (lstV r68.2 1 t70 r68.1) fun r71 =>ob (lchk r28.1) fun t72 =>ob (loff t72 4) fun t73 =>ob (lstV r71.2 1 t73 v1) fun r74 =>J29 r74.2)
 (J29 r28.2)))))
def BbLinkS (cal:CB)(O:Oracle)(N:Nat)(f0 f1 f2:FuncId)(v0 v1 v2 v3:IV)(H:Heap):OH :=
 ob (O f0 [v0,v1,v2] H) fun r1 =>ob (iextract r1.1 0) fun t2 =>ob (iextract r1.1 1) fun t3 =>ob (lbin .neq t3 (.int .i64 0)) fun t4 =>cnd t4
 (some (t3,r1.2))
 (ob (O f1 [v0,v3] r1.2) fun r5 =>ob (leqv false (leq .ptr r5.1 .nilPtr)) fun t6 =>ob (gq (isB t6 false) (some r5.1)) fun t7 =>ob (gq (isB t6 false) (lchk t7)) fun t8 =>ob (gq (isB t6 false) (loff t8 1)) fun t9 =>ob (gq (isB t6 false) (lload1 r5.2 t9)) fun t10 =>ob (gq (isB t6 false) (lbin .eql t10 (.int .i64 0))) fun t11 =>ob (lpick t6 (.bool true) t11) fun t12 =>cnd t12
 (some ((.int .i64 2),r5.2))
 (ob (lchk r5.1) fun t13 =>ob (loff t13 0) fun t14 =>ob (lload1 r5.2 t14) fun t15 =>ob (lbin .eql t15 (.int .i64 2)) fun t16 =>cnd t16
 (some ((.int .i64 1),r5.2))
 (ob (lchk r5.1) fun t17 =>ob (loff t17 1) fun t18 =>ob (lload1 r5.2 t18) fun t19 =>ob (lbin .geq t19 (.int .i64 20)) fun t20 =>cnd t20
 (some ((.int .i64 31),r5.2))
 (ob (lchk r5.1) fun t21 =>ob (loff t21 1) fun t22 =>ob (lload1 r5.2 t22) fun t23 =>ob (lbin .add t23 (.int .i64 1)) fun t24 =>ob (lchk r5.1) fun t25 =>ob (loff t25 1) fun t26 =>ob (lstV r5.2 1 t26 t24) fun r27 =>ob (lchk t2) fun t28 =>ob (loff t28 6) fun t29 =>ob (lload1 r27.2 t29) fun t30 =>ob (O f2 [t30,v2,v3] r27.2) fun r31 =>some (r31.1,r31.2)))))
def BbGoneS (cal:CB)(O:Oracle)(N:Nat)(f0 f1:FuncId)(v0 v1:IV)(H:Heap):OH :=
 ob (lchk v0) fun t1 =>ob (loff t1 1) fun t2 =>ob (lixa 201 1 t2 v1) fun t3 =>ob (lload1 H t3) fun t4 =>ob (lchk t4) fun t5 =>ob (loff t5 1) fun t6 =>ob (lload1 H t6) fun t7 =>ob (lbin .gtr t7 (.int .i64 0)) fun t8 =>ob (gq (isB t8 false) (some t4)) fun t9 =>ob (gq (isB t8 false) (lchk t9)) fun t10 =>ob (gq (isB t8 false) (loff t10 2)) fun t11 =>ob (gq (isB t8 false) (lload1 H t11)) fun t12 =>ob (gq (isB t8 false) (lbin .gtr t12 (.int .i64 0))) fun t13 =>ob (lpick t8 (.bool true) t13) fun t14 =>cnd t14
 (some ((.tuple []),H))
 (jn (fun(H30:Heap) =>ob (lchk v0) fun t31 =>ob (loff t31 1) fun t32 =>ob (lixa 201 1 t32 v1) fun t33 =>ob (lstV H30 1 t33 .nilPtr) fun r34 =>ob (lchk v0) fun t35 =>ob (loff t35 202) fun t36 =>ob (lload1 r34.2 t36) fun t37 =>ob (O f1 [t37,v1,v1] r34.2) fun r38 =>some ((.tuple []),r38.2)) fun J15 =>ob (lchk t4) fun t39 =>ob (loff t39 5) fun t40 =>ob (lload1 H t40) fun t41 =>ob (leqv true (leq .ptr t41 .nilPtr)) fun t42 =>cnd t42
 (ob (lchk v0) fun t43 =>ob (loff t43 0) fun t44 =>ob (lload1 H t44) fun t45 =>ob (lchk t4) fun t46 =>ob (loff t46 5) fun t47 =>ob (lload1 H t47) fun t48 =>ob (O f0 [t45,t48] H) fun r49 =>J15 r49.2)
 (J15 H))
def BbAwayS (cal:CB)(O:Oracle)(N:Nat)(f0 f1:FuncId)(v0 v1 v2:IV)(H:Heap):OH :=
 ob (lchk v1) fun t1 =>ob (loff t1 6) fun t2 =>ob (lload1 H t2) fun t3 =>ob (O f0 [t3,v2] H) fun r4 =>ob (iextract r4.1 0) fun t5 =>ob (iextract r4.1 1) fun t6 =>ob (lchk v0) fun t7 =>ob (loff t7 1) fun t8 =>ob (lixa 201 1 t8 t5) fun t9 =>ob (lload1 r4.2 t9) fun t10 =>ob (lchk t10) fun t11 =>ob (loff t11 1) fun t12 =>ob (lload1 r4.2 t12) fun t13 =>ob (lbin .sub t13 (.int .i64 1)) fun t14 =>ob (lchk t10) fun t15 =>ob (loff t15 1) fun t16 =>ob (lstV r4.2 1 t16 t14) fun r17 =>ob (O f1 [v0,t5] r17.2) fun r18 =>some ((.tuple []),r18.2)
def BbUnlinkS (cal:CB)(O:Oracle)(N:Nat)(f0 f1:FuncId)(v0 v1 v2:IV)(H:Heap):OH :=
 ob (O f0 [v0,v1,v2] H) fun r1 =>ob (iextract r1.1 0) fun t2 =>ob (iextract r1.1 1) fun t3 =>ob (iextract r1.1 2) fun t4 =>ob (lbin .neq t4 (.int .i64 0)) fun t5 =>cnd t5
 (some (t4,r1.2))
 (ob (lchk v0) fun t6 =>ob (loff t6 1) fun t7 =>ob (lixa 201 1 t7 t3) fun t8 =>ob (lload1 r1.2 t8) fun t9 =>ob (lchk t9) fun t10 =>ob (loff t10 0) fun t11 =>ob (lload1 r1.2 t11) fun t12 =>ob (lbin .eql t12 (.int .i64 2)) fun t13 =>cnd t13
 (some ((.int .i64 21),r1.2))
 (ob (O f1 [v0,t2,v2] r1.2) fun r14 =>some ((.int .i64 0),r14.2)))
def X2K1 :LC:=.seq (.seq (.reg [ qM 7 1,qM 8 2,qO 9 (.bin .neq (.t 7) (.t 8))]) (.cond (.t 9) .skip (.exit 0))) (.block 1 (.seq (.seq (.reg [ qM 10 1,qO 11 (.bin .eql (.t 10) (k6 1))]) (.cond (.t 11) (.seq (.reg [ qO 6 (.mv (.k (.bool false)))]) .ret) .skip)) (.reg [ qM 12 0,qM 13 1,qO 14 (.chk (.t 12)),qO 15 (.off (.t 14) 1),qO 16 (.ixa 201 1 (.t 15) (.t 13)),qO 17 (.ld1 (.t 16)),qO 18 (.chk (.t 17)),qO 19 (.off (.t 18) 4),qO 20 (.ld1 (.t 19)),qM 1 20])))
def BbBelowC0 :LC:=.loop X2K1
def BbBelowC1 :LC:=.block 0 BbBelowC0
def BbBelowC2 :LC:=.seq BbBelowC1 (.seq (.reg [ qO 6 (.mv (.k (.bool true)))]) .ret)
def BbBelowC3 :LC:=.seq (.reg [ qO 6 (.mv (.k (.bool false)))]) BbBelowC2
def BbBelowC0S (cal:CB)(O:Oracle)(N:Nat)(gE0:Heap->OH):Nat->IV->IV->IV->Heap->OH
 | 0,_,_,_,_=>none
 | n+1,v0,v1,v2,H =>ob (lbin .neq v1 v2) fun t1 =>cnd t1
  (ob (lbin .eql v1 (.int .i64 1)) fun t2 =>cnd t2
  (some ((.bool false),H))
  (ob (lchk v0) fun t3 =>ob (loff t3 1) fun t4 =>ob (lixa 201 1 t4 v1) fun t5 =>ob (lload1 H t5) fun t6 =>ob (lchk t6) fun t7 =>ob (loff t7 4) fun t8 =>ob (lload1 H t8) fun t9 =>
   BbBelowC0S cal O N gE0 n v0 t9 v2 H))
  (gE0 H)
theorem BbBelowC0Eq (cal:CB)(O:Oracle)(N:Nat){k:KT (IV×Heap)}(gE0:Heap->OH)(hgE0:∀E H,k (.exit 0) E H=gE0 H)(hR:∀E H,k .ret E H=resK [(.tmp 6)] [] E H):∀(n:Nat) (E:Sg) (H:Heap),itK (lxK cal O N X2K1) n E H k=BbBelowC0S cal O N gE0 n (lk E 0) (lk E 1) (lk E 2) H:=by
 have hk:k=(kE 0 (fun E H=>gE0 H) (kR (resK [(.tmp 6)] []) k)):=(kE_mk hgE0 (kR_mk hR rfl));intro n
 induction n with
 | zero=>intro E H;rfl
 | succ n ih =>
  intro E H;rw[itK_succ,seqK_mk (g:=fun E H=>BbBelowC0S cal O N gE0 n (lk E 0) (lk E 1) (lk E 2) H) ih,hk];kernel_rfl
def BbBelowC1S (cal:CB)(O:Oracle)(N:Nat)(gN:Heap->OH)(v0 v1 v2:IV)(H:Heap):OH :=
  BbBelowC0S cal O N (fun H=>gN H) N v0 v1 v2 H
theorem BbBelowC1Eq (cal:CB)(O:Oracle)(N:Nat){k:KT (IV×Heap)}(gN:Heap->OH)(hgN:∀E H,k .normal E H=gN H)(hR:∀E H,k .ret E H=resK [(.tmp 6)] [] E H):∀(E:Sg) (H:Heap),lxK cal O N BbBelowC1 E H k=BbBelowC1S cal O N gN (lk E 0) (lk E 1) (lk E 2) H:=by
 have hk:k=(kN (fun E H=>gN H) (kR (resK [(.tmp 6)] []) k)):=(kN_mk hgN (kR_mk hR rfl));intro E H;rw[hk];show lxK cal O N BbBelowC0 E H (blockK 0 (kN (fun E H=>gN H) (kR (resK [(.tmp 6)] []) k)))=_;exact BbBelowC0Eq cal O N (k:=(blockK 0 (kN (fun E H=>gN H) (kR (resK [(.tmp 6)] []) k)))) gN (fun _ _=>rfl) (fun _ _=>rfl) N E H
def BbBelowC2S (cal:CB)(O:Oracle)(N:Nat)(v0 v1 v2:IV)(H:Heap):OH :=
  BbBelowC1S cal O N (fun H=>some ((.bool true),H)) v0 v1 v2 H
theorem BbBelowC2Eq (cal:CB)(O:Oracle)(N:Nat){k:KT (IV×Heap)}(hR:∀E H,k .ret E H=resK [(.tmp 6)] [] E H):∀(E:Sg) (H:Heap),lxK cal O N BbBelowC2 E H k=BbBelowC2S cal O N (lk E 0) (lk E 1) (lk E 2) H:=by
 have hk:k=(kR (resK [(.tmp 6)] []) k):=(kR_mk hR rfl);intro E H;rw[hk];show lxK cal O N BbBelowC1 E H (seqK (lxK cal O N (.seq (.reg [ qO 6 (.mv (.k (.bool true)))]) .ret)) (kR (resK [(.tmp 6)] []) k))=_;exact BbBelowC1Eq cal O N (k:=(seqK (lxK cal O N (.seq (.reg [ qO 6 (.mv (.k (.bool true)))]) .ret)) (kR (resK [(.tmp 6)] []) k))) (fun H=>some ((.bool true),H)) (fun _ _=>rfl) (fun _ _=>rfl) E H
def BbBelowC3S (cal:CB)(O:Oracle)(N:Nat)(v0 v1 v2:IV)(H:Heap):OH :=
  BbBelowC2S cal O N v0 v1 v2 H
theorem BbBelowC3Eq (cal:CB)(O:Oracle)(N:Nat){k:KT (IV×Heap)}(hR:∀E H,k .ret E H=resK [(.tmp 6)] [] E H):∀(E:Sg) (H:Heap),lxK cal O N BbBelowC3 E H k=BbBelowC3S cal O N (lk E 0) (lk E 1) (lk E 2) H:=by
 have hk:k=(kR (resK [(.tmp 6)] []) k):=(kR_mk hR rfl);intro E H;rw[hk];show lxK cal O N (.reg [ qO 6 (.mv (.k (.bool false)))]) E H (seqK (lxK cal O N BbBelowC2) (kR (resK [(.tmp 6)] []) k))=_;rw[seqK_mk (g:=fun E H=>BbBelowC2S cal O N (lk E 0) (lk E 1) (lk E 2) H) (BbBelowC2Eq cal O N (k:=(kR (resK [(.tmp 6)] []) k)) (fun _ _=>rfl))];kernel_rfl
def BbBelow :LFun:=⟨BbBelowC3,[(.tmp 6)],21⟩
def BbBelowS (cal:CB)(O:Oracle)(N:Nat)(v0 v1 v2:IV)(H:Heap):OH :=
  BbBelowC3S cal O N v0 v1 v2 H
theorem BbBelowEq (cal:CB)(O:Oracle)(N:Nat)(v0 v1 v2:IV)(H:Heap):lrunK cal O N (BbBelow) [v0,v1,v2] H=BbBelowS cal O N v0 v1 v2 H:=by
 show lxK cal O N BbBelowC3 (initFrom 0 [v0,v1,v2]) H (endK [(.tmp 6)])=_;exact BbBelowC3Eq cal O N (k:=(endK [(.tmp 6)])) (fun _ _=>rfl) (initFrom 0 [v0,v1,v2]) H
def BbRenameS (cal:CB)(O:Oracle)(N:Nat)(f0 f1 f2 f3 f4 f5 f6 f7 f8:FuncId)(v0 v1 v2 v3 v4:IV)(H:Heap):OH :=
 ob (O f0 [v0,v1,v2] H) fun r1 =>ob (iextract r1.1 0) fun t2 =>ob (iextract r1.1 1) fun t3 =>ob (iextract r1.1 2) fun t4 =>ob (lbin .neq t4 (.int .i64 0)) fun t5 =>cnd t5
 (some (t4,r1.2))
 (ob (O f1 [v0,v3] r1.2) fun r6 =>ob (iextract r6.1 0) fun t7 =>ob (iextract r6.1 1) fun t8 =>ob (lbin .neq t8 (.int .i64 0)) fun t9 =>cnd t9
 (some (t8,r6.2))
 (ob (O f2 [v4] r6.2) fun r10 =>ob (lbin .neq r10.1 (.int .i64 0)) fun t11 =>cnd t11
 (some (r10.1,r10.2))
 (ob (lchk v0) fun t12 =>ob (loff t12 1) fun t13 =>ob (lixa 201 1 t13 t3) fun t14 =>ob (lload1 r10.2 t14) fun t15 =>ob (lchk t15) fun t16 =>ob (loff t16 0) fun t17 =>ob (lload1 r10.2 t17) fun t18 =>ob (lbin .eql t18 (.int .i64 2)) fun t19 =>ob (gq (isB t19 true) (some v0)) fun t20 =>ob (gq (isB t19 true) (some v3)) fun t21 =>ob (gq (isB t19 true) (some t3)) fun t22 =>ob (ge (isB t19 true) r10.2 (O f3 [t20,t21,t22] r10.2)) fun r23 =>ob (lpick t19 r23.1 (.bool false)) fun t24 =>cnd t24
 (some ((.int .i64 22),r23.2))
 (jn (fun(H93:Heap) =>ob (lchk t2) fun t94 =>ob (loff t94 6) fun t95 =>ob (lload1 H93 t95) fun t96 =>ob (O f7 [t96,v2] H93) fun r97 =>ob (lchk t7) fun t98 =>ob (loff t98 6) fun t99 =>ob (lload1 r97.2 t99) fun t100 =>ob (O f8 [t100,v4,t3] r97.2) fun r101 =>jn (fun(H112:Heap) =>some ((.int .i64 0),H112)) fun J102 =>ob (lchk t15) fun t113 =>ob (loff t113 0) fun t114 =>ob (lload1 r101.2 t114) fun t115 =>ob (lbin .eql t115 (.int .i64 2)) fun t116 =>cnd t116
 (ob (lchk t15) fun t117 =>ob (loff t117 4) fun t118 =>ob (lstV r101.2 1 t118 v3) fun r119 =>J102 r119.2)
 (J102 r101.2)) fun J25 =>ob (lchk t7) fun t120 =>ob (loff t120 6) fun t121 =>ob (lload1 r23.2 t121) fun t122 =>ob (O f4 [t122,v4] r23.2) fun r123 =>ob (iextract r123.1 0) fun t124 =>ob (iextract r123.1 1) fun t125 =>ob (lbin .eql t125 (.int .i64 0)) fun t126 =>cnd t126
 (ob (lchk v0) fun t127 =>ob (loff t127 1) fun t128 =>ob (lixa 201 1 t128 t124) fun t129 =>ob (lload1 r123.2 t129) fun t130 =>ob (lbin .eql t124 t3) fun t131 =>cnd t131
 (some ((.int .i64 0),r123.2))
 (ob (lchk t130) fun t132 =>ob (loff t132 0) fun t133 =>ob (lload1 r123.2 t133) fun t134 =>ob (lbin .eql t134 (.int .i64 2)) fun t135 =>ob (gq (isB t135 true) (some t15)) fun t136 =>ob (gq (isB t135 true) (lchk t136)) fun t137 =>ob (gq (isB t135 true) (loff t137 0)) fun t138 =>ob (gq (isB t135 true) (lload1 r123.2 t138)) fun t139 =>ob (gq (isB t135 true) (lbin .neq t139 (.int .i64 2))) fun t140 =>ob (lpick t135 t140 (.bool false)) fun t141 =>cnd t141
 (some ((.int .i64 21),r123.2))
 (ob (lchk t130) fun t142 =>ob (loff t142 0) fun t143 =>ob (lload1 r123.2 t143) fun t144 =>ob (lbin .neq t144 (.int .i64 2)) fun t145 =>ob (gq (isB t145 true) (some t15)) fun t146 =>ob (gq (isB t145 true) (lchk t146)) fun t147 =>ob (gq (isB t145 true) (loff t147 0)) fun t148 =>ob (gq (isB t145 true) (lload1 r123.2 t148)) fun t149 =>ob (gq (isB t145 true) (lbin .eql t149 (.int .i64 2))) fun t150 =>ob (lpick t145 t150 (.bool false)) fun t151 =>cnd t151
 (some ((.int .i64 20),r123.2))
 (ob (lchk t130) fun t152 =>ob (loff t152 0) fun t153 =>ob (lload1 r123.2 t153) fun t154 =>ob (lbin .eql t154 (.int .i64 2)) fun t155 =>ob (gq (isB t155 true) (some t130)) fun t156 =>ob (gq (isB t155 true) (lchk t156)) fun t157 =>ob (gq (isB t155 true) (loff t157 6)) fun t158 =>ob (gq (isB t155 true) (lload1 r123.2 t158)) fun t159 =>ob (ge (isB t155 true) r123.2 (O f5 [t159] r123.2)) fun r160 =>ob (gq (isB t155 true) (lbin .gtr r160.1 (.int .i64 0))) fun t161 =>ob (lpick t155 t161 (.bool false)) fun t162 =>cnd t162
 (some ((.int .i64 39),r160.2))
 (ob (O f6 [v0,t7,v4] r160.2) fun r163 =>J25 r163.2)))))
 (J25 r123.2)))))
def BbFileS (cal:CB)(O:Oracle)(N:Nat)(f0:FuncId)(v0 v1:IV)(H:Heap):OH :=
 ob (O f0 [v0,v1] H) fun r1 =>ob (leqv false (leq .ptr r1.1 .nilPtr)) fun t2 =>cnd t2
 (some ((.tuple [.nilPtr,(.int .i64 2)]),r1.2))
 (ob (lchk r1.1) fun t3 =>ob (loff t3 0) fun t4 =>ob (lload1 r1.2 t4) fun t5 =>ob (lbin .eql t5 (.int .i64 2)) fun t6 =>cnd t6
 (some ((.tuple [.nilPtr,(.int .i64 21)]),r1.2))
 (ob (lchk r1.1) fun t7 =>ob (loff t7 0) fun t8 =>ob (lload1 r1.2 t8) fun t9 =>ob (lbin .neq t9 (.int .i64 1)) fun t10 =>cnd t10
 (some ((.tuple [.nilPtr,(.int .i64 22)]),r1.2))
 (some ((.tuple [r1.1,(.int .i64 0)]),r1.2))))
def BbWriteS (cal:CB)(O:Oracle)(N:Nat)(f0 f1:FuncId)(v0 v1 v2 v3:IV)(H:Heap):OH :=
 ob (O f0 [v0,v1] H) fun r1 =>ob (iextract r1.1 0) fun t2 =>ob (iextract r1.1 1) fun t3 =>ob (lbin .neq t3 (.int .i64 0)) fun t4 =>cnd t4
 (some ((.tuple [(.int .i64 0),t3]),r1.2))
 (ob (lchk v0) fun t5 =>ob (loff t5 0) fun t6 =>ob (lload1 r1.2 t6) fun t7 =>ob (lchk t2) fun t8 =>ob (loff t8 5) fun t9 =>ob (lload1 r1.2 t9) fun t10 =>ob (O f1 [t7,t10,v2,v3] r1.2) fun r11 =>ob (iextract r11.1 0) fun t12 =>ob (iextract r11.1 1) fun t13 =>some ((.tuple [t12,t13]),r11.2))
end Go.Shade
namespace Go.Shade
variable {H : Heap} {P : Nat -> Prop} {k : Int} {l : List It} {q : Nat} {x : It}
section
variable {cal : FuncId -> Bool} {O : Oracle} {N : Nat}
theorem ahead_s (H:Heap)(x y:It):Wp (QiAheadS cal O N (.agg x.c) (.agg y.c) H) fun r=>r.1=.bool (ahead x y)/\Frame NoF H r.2:=by
 unfold QiAheadS;have b1:lbox H (.agg x.c)=some (.ptr H.length 0,H++[IObj.row x.c false]):=lbox_agg x.c_one;rw[b1,ob_some];simp only;have r1:(H++[IObj.row x.c false])[H.length]? =some (.row x.c false):=newRow;have k1:Frame NoF H (H++[IObj.row x.c false]):=Frame.push _ _ _;generalize H++[IObj.row x.c false]=K at *;have b2:lbox K (.agg y.c)=some (.ptr K.length 0,K++[IObj.row y.c false]):=lbox_agg y.c_one;rw[b2,ob_some];simp only;have k2:Frame NoF K (K++[IObj.row y.c false]):=Frame.push _ _ _;have r2:=k2.get (fun h=>h) r1;have r3:(K++[IObj.row y.c false])[K.length]? =some (.row y.c false):=newRow;generalize K++[IObj.row y.c false]=K2 at *;have e0:lload1 K2 (.ptr H.length 0)=some (.int .i64 x.key):=ld1 r2;have e1:lload1 K2 (.ptr K.length 0)=some (.int .i64 y.key):=ld1 r3;have e2:lload1 K2 (.ptr H.length 2)=some (.int .i64 x.push):=ld1 r2;have e3:lload1 K2 (.ptr K.length 2)=some (.int .i64 y.push):=ld1 r3;simp only[loff_ptr,Nat.zero_add,ob_some,e0,e1,e2,e3,lbin_neq,lbin_lss];refine Wp.ndec (fun hp=>Wp.ret ⟨?_,k1.tr k2⟩) (fun hp=>Wp.ret ⟨?_,k1.tr k2⟩)
 ·unfold ahead;rw[if_neg hp]
 ·unfold ahead;rw[if_pos hp]
def Tight (sv:IV):Prop:=sv=.nilSlice∨∃r n,sv=.slice r 0 n n false 3
def TQ (H:Heap)(q:Nat):Prop:=∃sv k,H[q]? =some (.row [sv,.int .i64 k] false)/\Tight sv
theorem app_item {P:Nat->Prop}{H:Heap}{sv xv:IV}{l:List It}{x:It}(h:QSl P H sv l)(hP:∀i,P i->i<H.length)(hl:xlen xv=some 1)(hc:lxcells H 3 xv 1=some x.c)(hb:l.length<=1000000) :
  Wp (lapp H 3 24 sv xv) fun r=>Frame P H r.2/\QSl (fun i=>P i∨(H.length<=i/\i<r.2.length)) r.2 r.1 (l++[x])/\(Tight sv->Tight r.1):=by
 have hi:itcs [x]=x.c:=rfl;unfold lapp lappend;rw[hl];simp only[Option.bind_some];rw[if_neg (by omega),hc];simp only[Option.bind_some];rw[if_pos ⟨rfl,rfl⟩];rcases h with⟨rfl,rfl⟩ | ⟨r,rest,ex,rfl,h2,h3⟩
 ·rw[lfresh_eq (by decide) rfl];refine⟨_,rfl,Frame.push _ _ _,.inr ⟨H.length,[],false,rfl,.inr ⟨Nat.le_refl _,by simp⟩,?_⟩,fun _=>.inr ⟨_,_,rfl⟩⟩;exact newRow
 ·cases rest with
  | cons y rest =>
   simp only;rw[if_pos (by simp),h3];simp only;have hlen:0+l.length*3+x.c.length<=(itcs (l++y::rest)).length:=by rw[itcs_length,It.c_length];simp;omega
   rw[if_pos hlen];refine⟨_,rfl,Frame.set _ _ h2,.inr ⟨r,rest,ex,?_,.inl h2,?_⟩,fun ht=> ?_⟩
   ·simp only[List.length_append,List.length_cons,List.length_nil];congr 1;omega
   ·rw[Nat.zero_add,Nat.mul_comm,itcs_put (by simp),setAt h3];simp
   ·rcases ht with e | ⟨r',n',e⟩
    ·cases e
    ·injection e with _ _ e1 e2
     simp only[List.length_cons]at e2;omega
  | nil =>
   simp only;rw[if_neg (by simp)];have hold:lsl H 3 (.slice r 0 l.length (l.length+([]:List It).length) ex 3) l.length=some (itcs l):=by
    simp only[lsl,Nat.le_refl,if_true];split
    ·rename_i e;have:l=[]:=List.length_eq_zero_iff.1 e;subst this;rfl
    ·simp only[irow,h3,List.append_nil,Nat.zero_add];rw[if_pos (by rw[itcs_length];omega),List.drop_zero,List.take_of_length_le (by rw[itcs_length];omega)]
   rw[hold];simp only[Option.bind_some];have hlen:(itcs l++x.c).length=(l.length+1)*3:=by rw[List.length_append,itcs_length,It.c_length];omega
   have hk:(l.length+1)*24<=140737488355328:=by omega
   have hrow:itcs l++x.c=itcs (l++[x]):=by rw[itcs_append];rfl
   cases ex with
   | true =>
    rw[if_pos rfl,lfresh_eq hk hlen];refine⟨_,rfl,Frame.push _ _ _,.inr ⟨H.length,[],false,?_,.inr ⟨Nat.le_refl _,by simp⟩,?_⟩,fun _=>.inr ⟨_,_,rfl⟩⟩
    ·simp
    ·rw[newRow,hrow,List.append_nil]
   | false =>
    rw[if_neg (by simp),h3];simp only;rw[if_pos trivial,lfresh_eq hk hlen];refine⟨_,rfl,(Frame.set _ _ h2).tr (Frame.push _ _ _),.inr ⟨(H.set r .dead).length,[],false,?_,.inr ⟨by simp,by simp⟩,?_⟩,fun _=>.inr ⟨_,_,rfl⟩⟩
    ·simp
    ·rw[newRow,hrow,List.append_nil]
def IPushOk (O:Oracle)(t:Nat)(f:FuncId):Prop:=∀(P:Nat->Prop) (H:Heap) (q:Nat) (l:List It) (k:Int) (x:It),QOk P H q l k->l.length<=1000000->Wp (O f [.ptr q 0,.iface t (.agg x.c)] H) fun r=>r.1=.tuple []/\Frame P H r.2/\(TQ H q->TQ r.2 q)/\∃P',QOk P' r.2 q (l++[x]) k/\∀i,P' i->P i∨H.length<=i
theorem ipush_s (hQ:QOk P H q l k)(hb:l.length<=1000000):Wp (QisPushS cal O N (.ptr q 0) (.iface 198 (.agg x.c)) H) fun r=>r.1=.tuple []/\Frame P H r.2/\(TQ H q->TQ r.2 q)/\∃P',QOk P' r.2 q (l++[x]) k/\∀i,P' i->P i∨H.length<=i:=by
 obtain⟨h1,h2,sv,h3,h4⟩:=id hQ;unfold QisPushS;have e1:lload1 H (.ptr q 0)=some sv:=ld1 h3;have e2:lasrt 198 (.agg [(.int .i64 0),(.int .i64 0),(.int .i64 0)]) false (.iface 198 (.agg x.c))=some (.agg x.c):=rfl;have e3:lbldS H 3 1 [(.int .i64 0),(.int .i64 0),(.int .i64 0)] [(0,.agg x.c)]=some (.slice H.length 0 1 1 true 3,H++[.row x.c false]):=rfl;rw[lchk_ptr,ob_some,e1,ob_some,e2,ob_some,e3,ob_some];simp only;have k1:Frame NoF H (H++[IObj.row x.c false]):=Frame.push _ _ _;have r1:(H++[IObj.row x.c false])[H.length]? =some (.row x.c false):=newRow;have l1:(H++[IObj.row x.c false]).length=H.length+1:=by simp
 generalize H++[IObj.row x.c false]=K at *;have q1:=k1.get (fun h=>h) h3;have e4:lload1 K (.ptr q 0)=some sv:=ld1 q1;refine Wp.call (app_item (x:=x) (h4.frame k1 fun _ _ h=>h) (fun i hi=>by have:=h2 i hi.1;omega) rfl (by simp[lxcells,lsl,irow,r1,It.c_length];rfl) hb) ?_;rintro⟨w,K2⟩ ⟨g1,g2,gt⟩;simp only at g1 g2 gt ⊢;have q2:=g1.get (fun h=>h.2 rfl) q1;have lq:=(ges q2).1;rw[ob_some,st1 q2 g2.one (by simp),ob_some,e4];simp only[ivo_refl,Bool.not_true,Bool.not_false,Bool.false_or,Bool.and_self,ckd_true];refine Wp.ret ⟨rfl,?_,fun ht=>⟨w,k,by rw[setAt q2];rfl,gt (by obtain⟨sv2,k2,e,t⟩:=ht;rw[h3]at e;cases e;exact t)⟩,fun i=>P i∨(H.length<=i/\i<K2.length),⟨.inl h1,fun i hi=> ?_,w,?_,?_⟩,fun i hi=>hi.imp (fun h=>h) fun h=>h.1⟩
 ·exact((k1.no).tr (g1.mono fun i hi=>hi.1)).tr (Frame.set _ _ h1)
 ·rcases hi with h | h
  ·have:=h2 i h;have:=g1.1;simp;omega
  ·simpa using h.2
 ·rw[setAt q2];rfl
 ·refine(g2.frame (Frame.set (F:=fun i=>i=q) K2 _ rfl) ?_).mono ?_
  ·intro i hi e;rcases hi with h | h
   ·exact h.2 e
   ·have:=h2 q h1;omega
  ·intro i hi;rcases hi with h | h
   ·exact⟨.inl h.1,h.2⟩
   ·exact⟨.inr ⟨by omega,h.2⟩,by have:=h2 q h1;omega⟩
def HPushOk (O:Oracle)(t t':Nat)(f:FuncId):Prop:=∀(P:Nat->Prop) (H:Heap) (q:Nat) (l:List It) (k:Int) (x:It),QOk P H q l k->l.length<1000000->Wp (O f [.iface t (.ptr q 0),.iface t' (.agg x.c)] H) fun r=>r.1=.tuple []/\Frame P H r.2/\(TQ H q->TQ r.2 q)/\∃P',QOk P' r.2 q (upL (l.length+1) (l++[x]) l.length) k/\∀i,P' i->P i∨H.length<=i
theorem hpush_s {fu:FuncId}(hI:IPushOk O 198 207)(hL:ILenOk O 117)(hU:UpOk O 196 fu)(hQ:QOk P H q l k)(hb:l.length<1000000):Wp (cHpPushS cal O N fu (.iface 196 (.ptr q 0)) (.iface 198 (.agg x.c)) H) fun r=>r.1=.tuple []/\Frame P H r.2/\(TQ H q->TQ r.2 q)/\∃P',QOk P' r.2 q (upL (l.length+1) (l++[x]) l.length) k/\∀i,P' i->P i∨H.length<=i:=by
 unfold cHpPushS;rw[linv0 (f:=207) rfl];refine Wp.call (hI P H q l k x hQ (by omega)) ?_;rintro⟨v,H1⟩ ⟨_,g2,gt,P',g3,g4⟩;simp only at g2 g3 gt ⊢;rw[invLen (f:=117) rfl hL g3,ob_some];have e1:lbin .sub (.int .i64 ((l++[x]).length:Nat)) (.int .i64 1)=some (.int .i64 (l.length:Nat)):=by rw[lbin_sub,wrap_i64 (by rw[List.length_append,List.length_singleton];omega) (by rw[List.length_append,List.length_singleton];omega)];simp
 simp only;rw[e1,ob_some];refine Wp.call (hU P' H1 q (l++[x]) k l.length g3 (by simp) (by simp;omega)) ?_;rintro⟨v,H2⟩ ⟨_,m2,m3,m4⟩;simp only at m2 m3 m4 ⊢;refine Wp.ret ⟨rfl,g2.trans m3 fun i hi hp=>by rcases g4 i hp with h | h;exact h;omega,fun ht=>by obtain⟨sv,k',e,t⟩:=gt ht;exact⟨sv,k',m4.trans e,t⟩,P',by simpa using m2,g4⟩
def QPushOk (O:Oracle)(f:FuncId):Prop:=∀(P:Nat->Prop) (H:Heap) (q:Nat) (l:List It) (k key n:Int),QOk P H q l k->l.length<1000000->Wp (O f [.ptr q 0,.int .i64 key,.int .i64 n] H) fun r=>r.1=.tuple []/\Frame P H r.2/\(TQ H q->TQ r.2 q)/\∃P',QOk P' r.2 q (upL (l.length+1) (l++[⟨key,n,k⟩]) l.length) (IntKind.wrap .i64 (k+1))/\∀i,P' i->P i∨H.length<=i
theorem qpush_s {fh:FuncId}(hH:HPushOk O 196 198 fh){key n:Int}(hQ:QOk P H q l k)(hb:l.length<1000000):Wp (QqPushS cal O N fh (.ptr q 0) (.int .i64 key) (.int .i64 n) H) fun r=>r.1=.tuple []/\Frame P H r.2/\(TQ H q->TQ r.2 q)/\∃P',QOk P' r.2 q (upL (l.length+1) (l++[⟨key,n,k⟩]) l.length) (IntKind.wrap .i64 (k+1))/\∀i,P' i->P i∨H.length<=i:=by
 obtain⟨h1,h2,sv,h3,h4⟩:=id hQ;unfold QqPushS;have e1:lload1 H (.ptr q 1)=some (.int .i64 k):=ld1 h3;have e2:lbld [(.int .i64 0),(.int .i64 0),(.int .i64 0)] [(0,1,.int .i64 key),(1,1,.int .i64 n),(2,1,.int .i64 k)]=some (.agg (It.mk key n k).c):=rfl;simp only[lchk_ptr,loff_ptr,ob_some,Nat.zero_add,e1,e2];refine Wp.call (hH P H q l k ⟨key,n,k⟩ hQ hb) ?_;rintro⟨v,H1⟩ ⟨_,g2,gt,P',g3,g4⟩;obtain⟨a1,a2,sv',a3,a4⟩:=id g3;have e3:lload1 H1 (.ptr q 1)=some (.int .i64 k):=ld1 a3;simp only[e3,ob_some,lbin_add];rw[st1 a3 (by simp only[one_int]) (by simp),ob_some];refine Wp.ret ⟨rfl,g2.tr (Frame.set _ _ h1),fun ht=>⟨sv',_,by rw[setAt a3];rfl,by obtain⟨sv2,k2,e,t⟩:=gt ht;rw[a3]at e;cases e;exact t⟩,P',⟨a1,fun i hi=>by simpa using a2 i hi,sv',?_,?_⟩,g4⟩
 ·rw[setAt a3];rfl
 ·exact a4.frame (Frame.set (F:=fun i=>i=q) H1 _ rfl) fun i hi e=>hi.2 e
def QNewOk (O:Oracle)(f:FuncId):Prop:=∀(H:Heap),Wp (O f [] H) fun r=>∃q,r.1=.ptr q 0/\H.length<=q/\Frame NoF H r.2/\QOk (fun i=>i=q) r.2 q [] 0
theorem qnew_s (H:Heap):Wp (queueNewS cal O N H) fun r=>∃q,r.1=.ptr q 0/\H.length<=q/\Frame NoF H r.2/\QOk (fun i=>i=q) r.2 q [] 0:=by
 unfold queueNewS;have e1:lbld [.nilSlice,(.int .i64 0)] []=some (.agg [.nilSlice,.int .i64 0]):=rfl;rw[e1,ob_some,lbox_agg rfl,ob_some];refine Wp.ret ⟨H.length,rfl,Nat.le_refl _,Frame.push _ _ _,rfl,fun i hi=>by subst hi;simp,.nilSlice,newRow,.inl ⟨rfl,rfl⟩⟩
def IPopOk (O:Oracle)(t:Nat)(f:FuncId):Prop:=∀(P:Nat->Prop) (H:Heap) (q:Nat) (l:List It) (k:Int) (x:It),QOk P H q (l++[x]) k->l.length<1000000->Wp (O f [.ptr q 0] H) fun r=>r.1=.iface t (.agg x.c)/\Frame P H r.2/\QOk P r.2 q l k/\∀b ex rest,QX H q b ex rest (l++[x]) k->QX r.2 q b ex (x::rest) l k
theorem ipop_s (hQ:QOk P H q (l++[x]) k)(hb:l.length<1000000):Wp (QisPopS cal O N (.ptr q 0) H) fun r=>r.1=.iface 198 (.agg x.c)/\Frame P H r.2/\QOk P r.2 q l k/\∀b ex rest,QX H q b ex rest (l++[x]) k->QX r.2 q b ex (x::rest) l k:=by
 obtain⟨h1,h2,sv,h3,h4⟩:=id hQ;unfold QisPopS;have e1:lload1 H (.ptr q 0)=some sv:=ld1 h3;have e2:lbin .sub (.int .i64 ((l++[x]).length:Nat)) (.int .i64 1)=some (.int .i64 (l.length:Nat)):=by rw[lbin_sub,wrap_i64 (by rw[List.length_append,List.length_singleton];omega) (by rw[List.length_append,List.length_singleton];omega)];simp
 obtain⟨r,rest,ex,rfl,c1,c2,c3,c4⟩:=h4.at (i:=l.length) (x:=x) (by simp);rw[lchk_ptr,ob_some,e1,ob_some,h4.len,ob_some,e2,ob_some,ob_some,e1,ob_some,c3,ob_some,c4,ob_some,lzbox_eq,ob_some];simp only[cells_agg];have k1:Frame NoF H (H++[IObj.row [(.int .i64 0),(.int .i64 0),(.int .i64 0)] false]):=Frame.push _ _ _;rw[stn (n:=3) newRow x.c_one rfl rfl,ob_some,setRow];simp only;have k2:Frame NoF H (H++[IObj.row x.c false]):=Frame.push _ _ _;have r2:(H++[IObj.row x.c false])[H.length]? =some (.row x.c false):=newRow;generalize H++[IObj.row x.c false]=K at *;have q2:=k2.get (fun h=>h) h3;have e3:lload1 K (.ptr q 0)=some _:=ld1 q2;rw[ob_some,e3,ob_some];have lq:=h2 q h1;have e4:lslice K (.slice 3) (.slice r 0 (l++[x]).length ((l++[x]).length+rest.length) ex 3) none (some (.int .i64 (l.length:Nat))) none=some (.slice r 0 l.length (l.length+(x::rest).length) ex 3):=by
  simp only[lslice,bnd];rw[if_pos (by omega)];simp only[Option.bind_some,Int.toNat_natCast];rw[if_neg (by simp),if_pos (by simp;omega)];simp;omega
 rw[e4,ob_some,ob_some,st1 q2 rfl (by simp),ob_some];have r3:(K.set q (.row ([.slice r 0 (l++[x]).length ((l++[x]).length+rest.length) ex 3,.int .i64 k].set 0 (.slice r 0 l.length (l.length+(x::rest).length) ex 3)) false))[H.length]? =some (.row x.c false):=by
  rw[List.getElem?_set_ne (by omega)];exact r2
 rw[ldn (n:=3) r3 rfl,ob_some,ob_some];refine Wp.ret ⟨rfl,k2.no.tr (Frame.set _ _ h1),⟨h1,fun i hi=>by have:=h2 i hi;have:=k2.1;simp;omega,_,setAt q2,.inr ⟨r,x::rest,ex,rfl,c1,?_⟩⟩,fun b ex' rest' hx=> ?_⟩
 ·rw[List.getElem?_set_ne (fun e=>c1.2 e.symm)];have:=k2.get (fun h=>h) c2;rw[this];simp
 ·have e1:=hx.hd;rw[h3]at e1;injection e1 with e1;injection e1 with e1 _;injection e1 with e1 _;injection e1 with e1 _ _ e2 e3 _
  subst e1 e3;have e4:=hx.row;rw[c2]at e4;injection e4 with e4;injection e4 with e4 _
  have:=List.append_cancel_left (itcs_inj e4);subst this;refine⟨setAt q2,?_,hx.ne⟩;rw[List.getElem?_set_ne (fun e=>hx.ne e.symm),k2.get (fun h=>h) hx.row];simp
def popL (l:List It):List It:=dnL (l.length+1) (iswp l 0 (l.length - 1)) 0 (l.length - 1)
theorem popL_length (l:List It):(popL l).length=l.length:=by unfold popL;rw[dnL_length,iswp_length]
theorem popL_perm (l:List It):List.Perm (popL l) l:=(dnL_perm _ _ _ _).trans (iswp_perm _ _ _)
theorem popL_split (h:l≠ []):∃x,popL l=(popL l).dropLast++[x]:=by
 have hne:popL l≠ []:=fun e=>h (List.length_eq_zero_iff.1 (by rw[←popL_length l,e];rfl));exact⟨(popL l).getLast hne,(List.dropLast_concat_getLast hne).symm⟩
def HPopOk (O:Oracle)(t t':Nat)(f:FuncId):Prop:=∀(P:Nat->Prop) (H:Heap) (q:Nat) (l:List It) (k:Int),QOk P H q l k->l≠ []->l.length<=1000000->Wp (O f [.iface t (.ptr q 0)] H) fun r=>Frame P H r.2/\∃x,popL l=(popL l).dropLast++[x]/\r.1=.iface t' (.agg x.c)/\QOk P r.2 q (popL l).dropLast k/\∀b ex rest,QX H q b ex rest l k->QX r.2 q b ex (x::rest) (popL l).dropLast k
theorem hpop_s {fd:FuncId}(hI:IPopOk O 198 206)(hL:ILenOk O 117)(hS:SwapOk O 204)(hD:DownOk O 196 fd)(hQ:QOk P H q l k)(hne:l≠ [])(hb:l.length<=1000000):Wp (cHpPopS cal O N fd (.iface 196 (.ptr q 0)) H) fun r=>Frame P H r.2/\∃x,popL l=(popL l).dropLast++[x]/\r.1=.iface 198 (.agg x.c)/\QOk P r.2 q (popL l).dropLast k/\∀b ex rest,QX H q b ex rest l k->QX r.2 q b ex (x::rest) (popL l).dropLast k:=by
 have hpos:0<l.length:=List.length_pos_iff.2 hne;unfold cHpPopS;rw[invLen (f:=117) rfl hL hQ,ob_some];have e1:lbin .sub (.int .i64 (l.length:Nat)) (.int .i64 1)=some (.int .i64 ((l.length - 1:Nat):Int)):=by rw[lbin_sub,wrap_i64 (by omega) (by omega)];congr 2;omega
 simp only;rw[e1,ob_some];refine Wp.call (invSwap (f:=204) (i:=0) rfl hS hQ hpos (show l.length - 1<l.length by omega)) ?_;rintro⟨v,H1⟩ ⟨_,g2,g3,_,g5⟩;simp only at g2 g3 g5 ⊢;refine Wp.call (hD P H1 q _ k 0 (l.length - 1) g2 (by rw[iswp_length];omega) (by rw[iswp_length];omega) (by rw[iswp_length];exact hb)) ?_;rintro⟨v,H2⟩ ⟨_,m2,m3,m5⟩;simp only at m2 m3 m5 ⊢;rw[iswp_length]at m2 m5;rw[linv0 (f:=206) rfl];obtain⟨x,hx⟩:=popL_split hne;have m4:QOk P H2 q ((popL l).dropLast++[x]) k:=by rw[←hx];exact m2
 refine Wp.call (hI P H2 q _ k x m4 (by rw[List.length_dropLast,popL_length];omega)) ?_;rintro⟨v,H3⟩ ⟨n1,n2,n3,n5⟩;simp only at n1 n2 n3 n5 ⊢;subst n1;exact Wp.ret ⟨(g3.tr m3).tr n2,x,hx,rfl,n3,fun b ex rest hq=>n5 b ex rest (by rw[←hx];exact m5 b ex rest (g5 b ex rest hq))⟩
def QLenOk (O:Oracle)(f:FuncId):Prop:=∀(P:Nat->Prop) (H:Heap) (q:Nat) (l:List It) (k:Int),QOk P H q l k->O f [.ptr q 0] H=some (.int .i64 (l.length:Nat),H)
theorem qlen_s {fl:FuncId}(hL:ILenOk O fl)(hQ:QOk P H q l k):QqLenS cal O N fl (.ptr q 0) H=some (.int .i64 (l.length:Nat),H):=by
 obtain⟨h1,h2,sv,h3,h4⟩:=id hQ;unfold QqLenS;have e1:lload1 H (.ptr q 0)=some sv:=ld1 h3;simp only[lchk_ptr,loff_ptr,ob_some,Nat.zero_add,e1,hL _ H sv l h4]
def QPopP (P:Nat->Prop)(H:Heap)(q:Nat)(l:List It)(k:Int)(r:Out):Prop :=
 Frame P H r.2/\((l=[]/\r.1=.tuple [.int .i64 0,.int .i64 0,.bool false]/\QOk P r.2 q l k)∨∃x,popL l=(popL l).dropLast++[x]/\r.1=.tuple [.int .i64 x.key,.int .i64 x.n,.bool true]/\QOk P r.2 q (popL l).dropLast k/\∀b ex rest,QX H q b ex rest l k->QX r.2 q b ex (x::rest) (popL l).dropLast k)
def QPopOk (O:Oracle)(f:FuncId):Prop:=∀(P:Nat->Prop) (H:Heap) (q:Nat) (l:List It) (k:Int),QOk P H q l k->l.length<=1000000->Wp (O f [.ptr q 0] H) (QPopP P H q l k)
theorem qpop_s {fl fh:FuncId}(hL:QLenOk O fl)(hH:HPopOk O 196 198 fh)(hQ:QOk P H q l k)(hb:l.length<=1000000):Wp (QqPopS cal O N fl fh (.ptr q 0) H) (QPopP P H q l k):=by
 unfold QqPopS;rw[hL P H q l k hQ,ob_some];simp only;rw[lbin_eql,ob_some];by_cases hne:l=[]
 ·subst hne;rw[decide_eq_true (by simp),cnd_true];exact Wp.ret ⟨Frame.refl _ _,.inl ⟨rfl,rfl,hQ⟩⟩
 ·have hpos:0<l.length:=List.length_pos_iff.2 hne;rw[decide_eq_false (by omega),cnd_false,lchk_ptr,ob_some,loff_ptr,ob_some,ob_some];refine Wp.call (hH P H q l k hQ hne hb) ?_;rintro⟨v,H1⟩ ⟨g1,x,g2,g3,g4,g5⟩;simp only at g1 g3 g4 g5 ⊢;subst g3;have e2:lasrt 198 (.agg [(.int .i64 0),(.int .i64 0),(.int .i64 0)]) false (.iface 198 (.agg x.c))=some (.agg x.c):=rfl;rw[e2,ob_some,lzbox_eq,ob_some];simp only[cells_agg];rw[stn (n:=3) newRow x.c_one rfl rfl,ob_some,setRow];simp only;have k2:Frame NoF H1 (H1++[IObj.row x.c false]):=Frame.push _ _ _;have r2:(H1++[IObj.row x.c false])[H1.length]? =some (.row x.c false):=newRow;have e3:lload1 (H1++[IObj.row x.c false]) (.ptr H1.length 0)=some (.int .i64 x.key):=ld1 r2;have e4:lload1 (H1++[IObj.row x.c false]) (.ptr H1.length 1)=some (.int .i64 x.n):=ld1 r2;simp only[loff_ptr,ob_some,Nat.zero_add,e3,e4];exact Wp.ret ⟨g1.tr k2.no,.inr ⟨x,g2,rfl,g4.frame k2 fun _ _ h=>h,fun b ex rest hq=>(g5 b ex rest hq).frame k2⟩⟩
end
end Go.Shade
namespace Go.Shade
def upQ (j:Nat):List It:=(List.range j).map fun i=>⟨(i:Nat)+2,(i:Nat)+2,(i:Nat)⟩
theorem upQ_length (j:Nat):(upQ j).length=j:=by simp[upQ]
theorem upQ_succ (j:Nat):upQ (j+1)=upQ j++[⟨(j:Nat)+2,(j:Nat)+2,(j:Nat)⟩]:=by simp[upQ,List.range_succ]
theorem upQ_get {j i:Nat}(h:i<j):(upQ j)[i]? =some ⟨(i:Nat)+2,(i:Nat)+2,(i:Nat)⟩:=by simp[upQ,h]
theorem upQ_push (j:Nat):upL (j+1) (upQ j++[⟨(j:Nat)+2,(j:Nat)+2,(j:Nat)⟩]) j=upQ (j+1):=by
 rw[←upQ_succ];unfold upL;split
 ·rfl
 ·rename_i h0;have ha:aheadAt (upQ (j+1)) j ((j - 1) / 2)=false:=by
   unfold aheadAt;rw[upQ_get (by omega),upQ_get (by omega)];simp only[ahead];rw[if_neg (by omega)];exact decide_eq_false (by omega)
  rw[ha];rfl
section
variable {cal : FuncId -> Bool} {O : Oracle} {N : Nat}
def SNewOk (O:Oracle)(f:FuncId):Prop:=∀(H:Heap) (room:Int),O f [.int .i64 room] H=if 0<=room/\room<=65536 then some (.ptr H.length 0,H++[.row [.int .i64 room,.int .i64 0] false])else some (.nilPtr,H)
theorem snew_s (H:Heap)(room:Int):blockNewS cal O N (.int .i64 room) H=if 0<=room/\room<=65536 then some (.ptr H.length 0,H++[.row [.int .i64 room,.int .i64 0] false])else some (.nilPtr,H):=by
 unfold blockNewS;rw[lbin_lss,ob_some];by_cases h1:room<0
 ·rw[decide_eq_true h1];simp only[isB_tf,gq_false,ob_some,lpick_true,cnd_true];rw[if_neg (by omega)]
 ·rw[decide_eq_false h1];simp only[isB_ff,gq_true,ob_some,lpick_false,lbin_gtr];by_cases h2:65536<room
  ·rw[decide_eq_true h2,cnd_true,if_neg (by omega)]
  ·rw[decide_eq_false h2,cnd_false,if_pos (by omega)];have e1:lbld [(.int .i64 0),(.int .i64 0)] [(0,1,(.int .i64 room))]=some (.agg [.int .i64 room,.int .i64 0]):=rfl;rw[e1,ob_some,lbox_agg rfl,ob_some]
def DNewOk (O:Oracle)(f:FuncId):Prop:=∀(H:Heap),O f [] H=some (.ptr H.length 0,H++[.row [.nilSlice] false])
theorem dnew_s (H:Heap):dentsNewS cal O N H=some (.ptr H.length 0,H++[.row [.nilSlice] false]):=by
 unfold dentsNewS;have e1:lbld [.nilSlice] []=some (.agg [.nilSlice]):=rfl;rw[e1,ob_some,lbox_agg rfl,ob_some]
def brC (s:IV)(cs:List IV)(q:IV):List IV:=s::(cs++[q])
def rootC (x:Nat):List IV:=.nilPtr:: .ptr x 0::List.replicate 199 .nilPtr
def nodC (d:Nat):List IV:=[.int .i64 2,.int .i64 1,.int .i64 0,.int .i64 0,.int .i64 1,.nilPtr,.ptr d 0,.str []]
structure NewBr (B:Nat)(K:Heap)(b:Nat)(room:Int):Prop where
 ex:∃s q d x P,K[b]? =some (.row (brC (.ptr s 0) (rootC x) (.ptr q 0)) false)/\K[s]? =some (.row [.int .i64 room,.int .i64 0] false)/\K[x]? =some (.row (nodC d) false)/\K[d]? =some (.row [.nilSlice] false)/\QOk P K q (upQ 199) 199/\TQ K q /\
  B<=s/\s<b/\B<=q/\s<q/\q<b/\b<d/\d<x/\∀i,P i->i=q∨(b<i/\i<d)
def BNewOk (O:Oracle)(f:FuncId):Prop:=∀(H:Heap) (room:Int),Wp (O f [.int .i64 room] H) fun r=>Frame NoF H r.2/\if 0<=room/\room<=65536 then ∃b,r.1=.ptr b 0/\NewBr H.length r.2 b room else r.1=.nilPtr
theorem bnew_go {fB fQ fP fD:FuncId}(hP:QPushOk O fP){gE0:IV->Heap->Option (IV×Heap)}{R:Out->Prop}{b q:Nat}{cs:List IV}{H0:Heap}{s:IV} (hb0:H0[b]? =some (.row (brC s cs (.ptr q 0)) false)) (hlen:cs.length=201) (hbq:q≠b)
  (hk:∀(P:Nat->Prop) (H:Heap),QOk P H q (upQ 199) 199->TQ H q->Frame (fun i=>i=q) H0 H->(∀i,P i->i=q∨H0.length<=i)->Wp (gE0 (.ptr b 0) H) R) :
  ∀(m j n:Nat) (P:Nat->Prop) (H:Heap),j+m=199->m<n->QOk P H q (upQ j) (j:Nat)->TQ H q->Frame (fun i=>i=q) H0 H->(∀i,P i->i=q∨H0.length<=i) ->
   Wp (branchNewC0S cal O N fB fQ fP fD gE0 n (.ptr b 0) (.int .i64 ((j+2:Nat):Int)) H) R:=by
 intro m
 induction m with
 | zero =>
  intro j n P H hj hn hQ hT hF hPl;obtain⟨n,rfl⟩:∃j,n=j+1:=⟨n - 1,by omega⟩;rw[branchNewC0S,lbin_leq,ob_some,decide_eq_false (by omega),cnd_false];obtain rfl:j=199:=by omega
  exact hk P H hQ hT hF hPl
 | succ m ih =>
  intro j n P H hj hn hQ hT hF hPl;obtain⟨n,rfl⟩:∃j,n=j+1:=⟨n - 1,by omega⟩;have e1:lload1 H (.ptr b 202)=some (.ptr q 0):=by
   rw[ld1 (hF.get (fun e=>hbq e.symm) hb0)];unfold brC;rw[List.getElem?_cons_succ,List.getElem?_append_right (by omega),hlen];rfl
  rw[branchNewC0S,lbin_leq,ob_some,decide_eq_true (by omega),cnd_true];simp only[lchk_ptr,loff_ptr,ob_some,Nat.zero_add,e1];refine Wp.call (hP P H q (upQ j) j _ _ hQ (by rw[upQ_length];omega)) ?_;rintro⟨v,H1⟩ ⟨_,g2,gt,P',g3,g4⟩;simp only at g2 g3 ⊢;rw[lbin_add,ob_some,wrap_i64 (by omega) (by omega)];rw[upQ_length,show((j+2:Nat):Int)=(j:Int)+2 by omega,upQ_push,wrap_i64 (by omega) (by omega)]at g3;have:=ih (j+1) n P' H1 (by omega) (by omega) (by rw[show((j+1:Nat):Int)=(j:Int)+1 by omega];exact g3) (gt hT) (hF.trans g2 fun i hi hp=>by rcases hPl i hp with h | h;exact h;omega) (fun i hi=>by
   rcases g4 i hi with h | h
   ·exact hPl i h
   ·exact .inr (Nat.le_trans hF.1 h))
  rw[show((j+1+2:Nat):Int)=((j+2:Nat):Int)+1 by omega]at this;exact this
theorem bnew_s {fB fQ fP fD:FuncId}(hN:200<=N)(hB:SNewOk O fB)(hQ:QNewOk O fQ)(hP:QPushOk O fP)(hD:DNewOk O fD)(H:Heap)(room:Int):Wp (branchNewS cal O N fB fQ fP fD (.int .i64 room) H) fun r=>Frame NoF H r.2/\if 0<=room/\room<=65536 then ∃b,r.1=.ptr b 0/\NewBr H.length r.2 b room else r.1=.nilPtr:=by
 unfold branchNewS branchNewC7S branchNewC6S branchNewC5S;rw[hB];by_cases h0:0<=room/\room<=65536
 ·rw[if_pos h0,ob_some];have e1:leqv false (leq .ptr (.ptr H.length 0) .nilPtr)=some (.bool false):=rfl;simp only;rw[e1,ob_some,cnd_false];unfold branchNewC4S;have k1:Frame NoF H (H++[IObj.row [.int .i64 room,.int .i64 0] false]):=Frame.push _ _ _;have r1:(H++[IObj.row [.int .i64 room,.int .i64 0] false])[H.length]? =some (.row [.int .i64 room,.int .i64 0] false):=newRow;generalize H++[IObj.row [.int .i64 room,.int .i64 0] false]=K at *;refine Wp.call (hQ K) ?_;rintro⟨v,K2⟩ ⟨q,rfl,hq,g1,g2⟩;simp only at g1 g2 ⊢;have l1:=(ges r1).1;refine Wp.of (a:=.agg (brC (.ptr H.length 0) (List.replicate 201 .nilPtr) (.ptr q 0))) (by kernel_rfl) ?_;have hb:lbox K2 (.agg (brC (.ptr H.length 0) (List.replicate 201 .nilPtr) (.ptr q 0)))=some (.ptr K2.length 0,K2++[IObj.row (brC (.ptr H.length 0) (List.replicate 201 .nilPtr) (.ptr q 0)) false]):=lbox_agg (by kernel_rfl);rw[hb,ob_some];simp only;have lq:=g2.2.1 q g2.1;have k3:Frame NoF K2 (K2++[IObj.row (brC (.ptr H.length 0) (List.replicate 201 .nilPtr) (.ptr q 0)) false]):=Frame.push _ _ _;have r3:(K2++[IObj.row (brC (.ptr H.length 0) (List.replicate 201 .nilPtr) (.ptr q 0)) false])[K2.length]? =some (.row (brC (.ptr H.length 0) (List.replicate 201 .nilPtr) (.ptr q 0)) false):=newRow;have l3:(K2++[IObj.row (brC (.ptr H.length 0) (List.replicate 201 .nilPtr) (.ptr q 0)) false]).length=K2.length+1:=by simp
  generalize K2++[IObj.row (brC (.ptr H.length 0) (List.replicate 201 .nilPtr) (.ptr q 0)) false]=K3 at *;have q3:QOk (fun i=>i=q) K3 q (upQ 0) ((0:Nat):Int):=g2.frame k3 fun _ _ h=>h;have kk:Frame NoF H K3:=(k1.tr g1).tr k3;have s3:=(g1.tr k3).get (fun h=>h) r1;unfold branchNewC3S branchNewC2S branchNewC1S;refine bnew_go hP (H0:=K3) r3 List.length_replicate (by omega) ?_ 199 0 N _ K3 (by omega) (by omega) q3 (by obtain⟨_,_,a,b,c⟩:=q3;exact⟨a,_,b,by cases c with | inl h=>exact .inl h.1 | inr h=>(obtain⟨r,rest,ex,e1,e2,e3⟩:=h;exact absurd e2.1 e2.2)⟩) (Frame.refl _ _) (fun i hi=>.inl hi);intro P K4 p1 pt p2 p3;have p1':=p1.2.1;have h4:=p2.1;have e2:=hD K4;simp only;rw[e2,ob_some];simp only;have k5:Frame NoF K4 (K4++[IObj.row [.nilSlice] false]):=Frame.push _ _ _;have r5:(K4++[IObj.row [.nilSlice] false])[K4.length]? =some (.row [.nilSlice] false):=newRow;have l5:(K4++[IObj.row [.nilSlice] false]).length=K4.length+1:=by simp
  generalize K4++[IObj.row [.nilSlice] false]=K5 at *;refine Wp.of (a:=.agg (nodC K4.length)) rfl ?_;have hb2:lbox K5 (.agg (nodC K4.length))=some (.ptr K5.length 0,K5++[IObj.row (nodC K4.length) false]):=lbox_agg rfl;rw[hb2,ob_some];simp only;have k6:Frame NoF K5 (K5++[IObj.row (nodC K4.length) false]):=Frame.push _ _ _;have r6:(K5++[IObj.row (nodC K4.length) false])[K5.length]? =some (.row (nodC K4.length) false):=newRow;have l6:(K5++[IObj.row (nodC K4.length) false]).length=K5.length+1:=by simp
  generalize K5++[IObj.row (nodC K4.length) false]=K6 at *;have b6:=(p2.tr (k5.tr k6).no).get (by omega) r3;simp only[lchk_ptr,loff_ptr,ob_some,Nat.zero_add];rw[lixa_ptr,if_pos (by omega),ob_some,st1 b6 (by simp only[one_ptr]) (by unfold brC;rw[List.length_cons,List.length_append,List.length_replicate];simp),ob_some];have kb:Frame (fun i=>i=K2.length) K6 (K6.set K2.length (.row ((brC (.ptr H.length 0) (List.replicate 201 .nilPtr) (.ptr q 0)).set (1+Int.toNat 1*1) (.ptr K5.length 0)) false)):=Frame.set _ _ rfl;refine Wp.ret ⟨((kk.trans (p2.tr (k5.tr k6).no) fun i hi e=>by omega)).setNew _ (by have:=k1.1;have:=g1.1;omega),?_⟩;rw[if_pos h0];refine⟨_,rfl,⟨H.length,q,K4.length,K5.length,P,?_,?_,?_,?_,?_,?_,by omega,by have:=g1.1;omega,by omega,by omega,by omega,by omega,by omega,fun i hi=> ?_⟩⟩
  ·rw[setAt b6];rfl
  ·exact kb.get (by have:=g1.1;omega) ((p2.tr (k5.tr k6).no).get (by omega) s3)
  ·exact kb.get (by omega) r6
  ·exact kb.get (by omega) (k6.get (fun h=>h) r5)
  ·exact(p1.frame (k5.tr k6) fun _ _ h=>h).frame kb fun i hi e=>by rcases p3 i hi with h | h<;>omega
  ·obtain⟨sv,k,e,t⟩:=pt;exact⟨sv,k,kb.get (by omega) ((k5.tr k6).get (fun h=>h) e),t⟩
  ·rcases p3 i hi with h | h
   ·exact .inl h
   ·exact .inr ⟨by omega,p1' i hi⟩
 ·rw[if_neg h0,ob_some];have e1:leqv false (leq .ptr .nilPtr .nilPtr)=some (.bool true):=rfl;simp only;rw[e1,ob_some,cnd_true];exact Wp.ret ⟨Frame.refl _ _,by rw[if_neg h0]⟩
end
end Go.Shade
namespace Go.Shade
def DdGetS (cal:CB)(O:Oracle)(N:Nat)(f0:FuncId)(v0 v1:IV)(H:Heap):OH :=
 ob (O f0 [v0,v1] H) fun r1 =>ob (iextract r1.1 0) fun t2 =>ob (iextract r1.1 1) fun t3 =>ob (iun .not t3) fun t4 =>cnd t4
 (some ((.tuple [(.int .i64 0),(.int .i64 2)]),r1.2))
 (ob (lchk v0) fun t5 =>ob (loff t5 0) fun t6 =>ob (lload1 r1.2 t6) fun t7 =>ob (lix 2 t7 t2) fun t8 =>ob (loff t8 1) fun t9 =>ob (lload1 r1.2 t9) fun t10 =>some ((.tuple [t10,(.int .i64 0)]),r1.2))
def DdSetS (cal:CB)(O:Oracle)(N:Nat)(f0 f1 f2:FuncId)(v0 v1 v2:IV)(H:Heap):OH :=
 ob (O f0 [v1] H) fun r1 =>ob (lbin .neq r1.1 (.int .i64 0)) fun t2 =>cnd t2
 (some (r1.1,r1.2))
 (ob (lbin .eql v1 (.str [46])) fun t3 =>ob (gq (isB t3 false) (some v1)) fun t4 =>ob (gq (isB t3 false) (lbin .eql t4 (.str [46,46]))) fun t5 =>ob (lpick t3 (.bool true) t5) fun t6 =>ob (gq (isB t6 false) (some v2)) fun t7 =>ob (gq (isB t6 false) (lbin .lss t7 (.int .i64 1))) fun t8 =>ob (lpick t6 (.bool true) t8) fun t9 =>cnd t9
 (some ((.int .i64 22),r1.2))
 (ob (O f1 [v0,v1] r1.2) fun r10 =>ob (iextract r10.1 0) fun t11 =>ob (iextract r10.1 1) fun t12 =>jn (fun(H28:Heap) =>ob (lchk v0) fun t29 =>ob (loff t29 0) fun t30 =>ob (lload1 H28 t30) fun t31 =>ob (lix 2 t31 t11) fun t32 =>ob (loff t32 1) fun t33 =>ob (lstV H28 1 t33 v2) fun r34 =>some ((.int .i64 0),r34.2)) fun J13 =>ob (iun .not t12) fun t35 =>cnd t35
 (ob (lchk v0) fun t36 =>ob (loff t36 0) fun t37 =>ob (lload1 r10.2 t37) fun t38 =>ob (lbld [(.str []),(.int .i64 0)] [(0,1,v1)]) fun t39 =>ob (lbldS r10.2 2 1 [(.str []),(.int .i64 0)] [(0,t39)]) fun r40 =>ob (O f2 [t38,t11,r40.1] r40.2) fun r41 =>ob (lchk v0) fun t42 =>ob (loff t42 0) fun t43 =>ob (lstV r41.2 1 t43 r41.1) fun r44 =>J13 r44.2)
 (J13 r10.2)))
def DdDelS (cal:CB)(O:Oracle)(N:Nat)(f0 f1:FuncId)(v0 v1:IV)(H:Heap):OH :=
 ob (O f0 [v0,v1] H) fun r1 =>ob (iextract r1.1 0) fun t2 =>ob (iextract r1.1 1) fun t3 =>ob (iun .not t3) fun t4 =>cnd t4
 (some ((.tuple [(.int .i64 0),(.int .i64 2)]),r1.2))
 (ob (lchk v0) fun t5 =>ob (loff t5 0) fun t6 =>ob (lload1 r1.2 t6) fun t7 =>ob (lix 2 t7 t2) fun t8 =>ob (loff t8 1) fun t9 =>ob (lload1 r1.2 t9) fun t10 =>ob (lchk v0) fun t11 =>ob (loff t11 0) fun t12 =>ob (lload1 r1.2 t12) fun t13 =>ob (lbin .add t2 (.int .i64 1)) fun t14 =>ob (O f1 [t13,t2,t14] r1.2) fun r15 =>ob (lchk v0) fun t16 =>ob (loff t16 0) fun t17 =>ob (lstV r15.2 1 t17 r15.1) fun r18 =>some ((.tuple [t10,(.int .i64 0)]),r18.2))
def DdLenS (cal:CB)(O:Oracle)(N:Nat)(v0:IV)(H:Heap):OH :=
 ob (lchk v0) fun t1 =>ob (loff t1 0) fun t2 =>ob (lload1 H t2) fun t3 =>ob (llen H .slice t3) fun t4 =>some (t4,H)
def DdFindS (cal:CB)(O:Oracle)(N:Nat)(f0 f1:FuncId)(v0 v1:IV)(H:Heap):OH :=
 ob (lchk v0) fun t1 =>ob (loff t1 0) fun t2 =>ob (lload1 H t2) fun t3 =>ob (O f0 [t3,v1,(.func (.func f1) [] [])] H) fun r4 =>ob (iextract r4.1 0) fun t5 =>ob (iextract r4.1 1) fun t6 =>some ((.tuple [t5,t6]),r4.2)
def X3K0 :LC:=.seq (.seq (.reg [ qM 15 9,qM 16 10,qO 17 (.bin .lss (.t 15) (.t 16))]) (.cond (.t 17) .skip (.exit 0))) (.block 1 (.seq (.reg [ qM 18 9,qM 19 10,qO 20 (.bin .add (.t 18) (.t 19)),qO 21 (.cvt .u64 (.t 20)),qO 22 (.bin .shr (.t 21) (.k (.int .u64 1))),qO 23 (.cvt .i64 (.t 22)),qM 11 23]) (.seq (.reg [ qM 24 2,qM 25 0,qM 26 11,qO 27 (.ix 2 (.t 25) (.t 26)),qO 28 (.ldn 2 (.t 27)),qM 29 1,qO 30 (.callV (.t 24) [(.t 28),(.t 29)]),qO 31 (.bin .lss (.t 30) (k6 0))]) (.cond (.t 31) (.reg [ qM 32 11,qO 33 (.bin .add (.t 32) (k6 1)),qM 9 33]) (.reg [ qM 34 11,qM 10 34])))))
def sBsfC0 :LC:=.loop X3K0
def sBsfC1 :LC:=.block 0 sBsfC0
def X3K1 :LC:=.seq (.reg [ qM 35 9,qM 36 9,qM 37 8,qO 38 (.bin .lss (.t 36) (.t 37)),qM 39 38,⟨(some 40),(.mv (.t 2)),(some (39,true))⟩,⟨(some 41),(.mv (.t 0)),(some (39,true))⟩,⟨(some 42),(.mv (.t 9)),(some (39,true))⟩,⟨(some 43),(.ix 2 (.t 41) (.t 42)),(some (39,true))⟩,⟨(some 44),(.ldn 2 (.t 43)),(some (39,true))⟩,⟨(some 45),(.mv (.t 1)),(some (39,true))⟩,⟨(some 46),(.callV (.t 40) [(.t 44),(.t 45)]),(some (39,true))⟩,⟨(some 47),(.bin .eql (.t 46) (k6 0)),(some (39,true))⟩,qO 48 (.pick (.t 39) (.t 47) (.k (.bool false))),qM 6 35,qM 7 48]) .ret
def sBsfC2 :LC:=.seq sBsfC1 X3K1
def X3K2 :LC:=.reg [ qM 14 8,qO 9 (.mv (k6 0)),qM 10 14]
def sBsfC3 :LC:=.seq X3K2 sBsfC2
def X3K3 :LC:=.reg [ qM 12 0,qO 13 (.len .slice (.t 12)),qM 8 13]
def sBsfC4 :LC:=.seq X3K3 sBsfC3
def X3K4 :LC:=.reg [ qO 6 (.mv (k6 0)),qO 7 (.mv (.k (.bool false)))]
def sBsfC5 :LC:=.seq X3K4 sBsfC4
def sBsfC0S (cal:CB)(O:Oracle)(N:Nat)(gE0:IV->IV->IV->IV->IV->Heap->OH):Nat->IV->IV->IV->IV->IV->IV->Heap->OH
 | 0,_,_,_,_,_,_,_=>none
 | n+1,v0,v1,v2,v8,v9,v10,H =>ob (lbin .lss v9 v10) fun t1 =>cnd t1
  (jn (fun(j3 j4:IV) (H18:Heap) =>
   sBsfC0S cal O N gE0 n v0 v1 v2 v8 j3 j4 H18) fun J2 =>ob (lbin .add v9 v10) fun t19 =>ob (lcvt .u64 t19) fun t20 =>ob (lbin .shr t20 (.int .u64 1)) fun t21 =>ob (lcvt .i64 t21) fun t22 =>ob (lix 2 v0 t22) fun t23 =>ob (lloadn H 2 t23) fun t24 =>ob (lcallV cal O H v2 [t24,v1]) fun r25 =>ob (lbin .lss r25.1 (.int .i64 0)) fun t26 =>cnd t26
  (ob (lbin .add t22 (.int .i64 1)) fun t27 =>J2 t27 v10 r25.2)
  (J2 v9 t22 r25.2))
  (gE0 v0 v1 v2 v8 v9 H)
theorem sBsfC0Eq (cal:CB)(O:Oracle)(N:Nat){k:KT (IV×Heap)}(gE0:IV->IV->IV->IV->IV->Heap->OH)(hgE0:∀E H,k (.exit 0) E H=gE0 (lk E 0) (lk E 1) (lk E 2) (lk E 8) (lk E 9) H):∀(n:Nat) (E:Sg) (H:Heap),itK (lxK cal O N X3K0) n E H k=sBsfC0S cal O N gE0 n (lk E 0) (lk E 1) (lk E 2) (lk E 8) (lk E 9) (lk E 10) H:=by
 have hk:k=(kE 0 (fun E H=>gE0 (lk E 0) (lk E 1) (lk E 2) (lk E 8) (lk E 9) H) k):=(kE_mk hgE0 rfl);intro n
 induction n with
 | zero=>intro E H;rfl
 | succ n ih =>
  intro E H;rw[itK_succ,seqK_mk (g:=fun E H=>sBsfC0S cal O N gE0 n (lk E 0) (lk E 1) (lk E 2) (lk E 8) (lk E 9) (lk E 10) H) ih,hk];kernel_rfl
def sBsfC1S (cal:CB)(O:Oracle)(N:Nat)(gN:IV->IV->IV->IV->IV->Heap->OH)(v0 v1 v2 v8 v9 v10:IV)(H:Heap):OH :=
  sBsfC0S cal O N (fun v0 v1 v2 v8 v9 H=>gN v0 v1 v2 v8 v9 H) N v0 v1 v2 v8 v9 v10 H
theorem sBsfC1Eq (cal:CB)(O:Oracle)(N:Nat){k:KT (IV×Heap)}(gN:IV->IV->IV->IV->IV->Heap->OH)(hgN:∀E H,k .normal E H=gN (lk E 0) (lk E 1) (lk E 2) (lk E 8) (lk E 9) H):∀(E:Sg) (H:Heap),lxK cal O N sBsfC1 E H k=sBsfC1S cal O N gN (lk E 0) (lk E 1) (lk E 2) (lk E 8) (lk E 9) (lk E 10) H:=by
 have hk:k=(kN (fun E H=>gN (lk E 0) (lk E 1) (lk E 2) (lk E 8) (lk E 9) H) k):=(kN_mk hgN rfl);intro E H;rw[hk];show lxK cal O N sBsfC0 E H (blockK 0 (kN (fun E H=>gN (lk E 0) (lk E 1) (lk E 2) (lk E 8) (lk E 9) H) k))=_;exact sBsfC0Eq cal O N (k:=(blockK 0 (kN (fun E H=>gN (lk E 0) (lk E 1) (lk E 2) (lk E 8) (lk E 9) H) k))) gN (fun _ _=>rfl) N E H
def sBsfC2S (cal:CB)(O:Oracle)(N:Nat)(v0 v1 v2 v8 v9 v10:IV)(H:Heap):OH :=
  sBsfC1S cal O N (fun v0 v1 v2 v8 v9 H=>ob (lbin .lss v9 v8) fun t1 =>ob (gq (isB t1 true) (some v2)) fun t2 =>ob (gq (isB t1 true) (some v0)) fun t3 =>ob (gq (isB t1 true) (some v9)) fun t4 =>ob (gq (isB t1 true) (lix 2 t3 t4)) fun t5 =>ob (gq (isB t1 true) (lloadn H 2 t5)) fun t6 =>ob (gq (isB t1 true) (some v1)) fun t7 =>ob (ge (isB t1 true) H (lcallV cal O H t2 [t6,t7])) fun r8 =>ob (gq (isB t1 true) (lbin .eql r8.1 (.int .i64 0))) fun t9 =>ob (lpick t1 t9 (.bool false)) fun t10 =>some ((.tuple [v9,t10]),r8.2)) v0 v1 v2 v8 v9 v10 H
theorem sBsfC2Eq (cal:CB)(O:Oracle)(N:Nat){k:KT (IV×Heap)}(hR:∀E H,k .ret E H=resK [(.tmp 6),(.tmp 7)] [] E H):∀(E:Sg) (H:Heap),lxK cal O N sBsfC2 E H k=sBsfC2S cal O N (lk E 0) (lk E 1) (lk E 2) (lk E 8) (lk E 9) (lk E 10) H:=by
 have hk:k=(kR (resK [(.tmp 6),(.tmp 7)] []) k):=(kR_mk hR rfl);intro E H;rw[hk];show lxK cal O N sBsfC1 E H (seqK (lxK cal O N X3K1) (kR (resK [(.tmp 6),(.tmp 7)] []) k))=_;exact sBsfC1Eq cal O N (k:=(seqK (lxK cal O N X3K1) (kR (resK [(.tmp 6),(.tmp 7)] []) k))) (fun v0 v1 v2 v8 v9 H=>ob (lbin .lss v9 v8) fun t1 =>ob (gq (isB t1 true) (some v2)) fun t2 =>ob (gq (isB t1 true) (some v0)) fun t3 =>ob (gq (isB t1 true) (some v9)) fun t4 =>ob (gq (isB t1 true) (lix 2 t3 t4)) fun t5 =>ob (gq (isB t1 true) (lloadn H 2 t5)) fun t6 =>ob (gq (isB t1 true) (some v1)) fun t7 =>ob (ge (isB t1 true) H (lcallV cal O H t2 [t6,t7])) fun r8 =>ob (gq (isB t1 true) (lbin .eql r8.1 (.int .i64 0))) fun t9 =>ob (lpick t1 t9 (.bool false)) fun t10 =>some ((.tuple [v9,t10]),r8.2)) (fun _ _=>rfl) E H
def sBsfC3S (cal:CB)(O:Oracle)(N:Nat)(v0 v1 v2 v8:IV)(H:Heap):OH :=
  sBsfC2S cal O N v0 v1 v2 v8 (.int .i64 0) v8 H
theorem sBsfC3Eq (cal:CB)(O:Oracle)(N:Nat){k:KT (IV×Heap)}(hR:∀E H,k .ret E H=resK [(.tmp 6),(.tmp 7)] [] E H):∀(E:Sg) (H:Heap),lxK cal O N sBsfC3 E H k=sBsfC3S cal O N (lk E 0) (lk E 1) (lk E 2) (lk E 8) H:=by
 have hk:k=(kR (resK [(.tmp 6),(.tmp 7)] []) k):=(kR_mk hR rfl);intro E H;rw[hk];show lxK cal O N X3K2 E H (seqK (lxK cal O N sBsfC2) (kR (resK [(.tmp 6),(.tmp 7)] []) k))=_;rw[seqK_mk (g:=fun E H=>sBsfC2S cal O N (lk E 0) (lk E 1) (lk E 2) (lk E 8) (lk E 9) (lk E 10) H) (sBsfC2Eq cal O N (k:=(kR (resK [(.tmp 6),(.tmp 7)] []) k)) (fun _ _=>rfl))];kernel_rfl
def sBsfC4S (cal:CB)(O:Oracle)(N:Nat)(v0 v1 v2:IV)(H:Heap):OH :=
 ob (llen H .slice v0) fun t1 =>
  sBsfC3S cal O N v0 v1 v2 t1 H
theorem sBsfC4Eq (cal:CB)(O:Oracle)(N:Nat){k:KT (IV×Heap)}(hR:∀E H,k .ret E H=resK [(.tmp 6),(.tmp 7)] [] E H):∀(E:Sg) (H:Heap),lxK cal O N sBsfC4 E H k=sBsfC4S cal O N (lk E 0) (lk E 1) (lk E 2) H:=by
 have hk:k=(kR (resK [(.tmp 6),(.tmp 7)] []) k):=(kR_mk hR rfl);intro E H;rw[hk];show lxK cal O N X3K3 E H (seqK (lxK cal O N sBsfC3) (kR (resK [(.tmp 6),(.tmp 7)] []) k))=_;rw[seqK_mk (g:=fun E H=>sBsfC3S cal O N (lk E 0) (lk E 1) (lk E 2) (lk E 8) H) (sBsfC3Eq cal O N (k:=(kR (resK [(.tmp 6),(.tmp 7)] []) k)) (fun _ _=>rfl))];kernel_rfl
def sBsfC5S (cal:CB)(O:Oracle)(N:Nat)(v0 v1 v2:IV)(H:Heap):OH :=
  sBsfC4S cal O N v0 v1 v2 H
theorem sBsfC5Eq (cal:CB)(O:Oracle)(N:Nat){k:KT (IV×Heap)}(hR:∀E H,k .ret E H=resK [(.tmp 6),(.tmp 7)] [] E H):∀(E:Sg) (H:Heap),lxK cal O N sBsfC5 E H k=sBsfC5S cal O N (lk E 0) (lk E 1) (lk E 2) H:=by
 have hk:k=(kR (resK [(.tmp 6),(.tmp 7)] []) k):=(kR_mk hR rfl);intro E H;rw[hk];show lxK cal O N X3K4 E H (seqK (lxK cal O N sBsfC4) (kR (resK [(.tmp 6),(.tmp 7)] []) k))=_;rw[seqK_mk (g:=fun E H=>sBsfC4S cal O N (lk E 0) (lk E 1) (lk E 2) H) (sBsfC4Eq cal O N (k:=(kR (resK [(.tmp 6),(.tmp 7)] []) k)) (fun _ _=>rfl))];kernel_rfl
def sBsf :LFun:=⟨sBsfC5,[(.tmp 6),(.tmp 7)],49⟩
def sBsfS (cal:CB)(O:Oracle)(N:Nat)(v0 v1 v2:IV)(H:Heap):OH :=
  sBsfC5S cal O N v0 v1 v2 H
theorem sBsfEq (cal:CB)(O:Oracle)(N:Nat)(v0 v1 v2:IV)(H:Heap):lrunK cal O N (sBsf) [v0,v1,v2] H=sBsfS cal O N v0 v1 v2 H:=by
 show lxK cal O N sBsfC5 (initFrom 0 [v0,v1,v2]) H (endK [(.tmp 6),(.tmp 7)])=_;exact sBsfC5Eq cal O N (k:=(endK [(.tmp 6),(.tmp 7)])) (fun _ _=>rfl) (initFrom 0 [v0,v1,v2]) H
def DdFind1S (cal:CB)(O:Oracle)(N:Nat)(f0:FuncId)(v0 v1:IV)(H:Heap):OH :=
 ob (lbox H v0) fun r1 =>ob (loff r1.1 0) fun t2 =>ob (lload1 r1.2 t2) fun t3 =>ob (O f0 [t3,v1] r1.2) fun r4 =>some (r4.1,r4.2)
def stringsCompareS (cal:CB)(O:Oracle)(N:Nat)(f0:FuncId)(v0 v1:IV)(H:Heap):OH :=
 ob (O f0 [v0,v1] H) fun r1 =>some (r1.1,r1.2)
def iBcsS (cal:CB)(O:Oracle)(N:Nat)(v0 v1:IV)(H:Heap):OH :=
 ob (lxtV H 1 [v0,v1]) fun r1 =>some (r1.1,r1.2)
def pathNameS (cal:CB)(O:Oracle)(N:Nat)(f0:FuncId)(v0:IV)(H:Heap):OH :=
 ob (lbin .eql v0 (.str [])) fun t1 =>cnd t1
 (some ((.int .i64 2),H))
 (ob (llen H .str v0) fun t2 =>ob (lbin .gtr t2 (.int .i64 60)) fun t3 =>cnd t3
 (some ((.int .i64 36),H))
 (ob (O f0 [v0,(.int .u8 0)] H) fun r4 =>ob (lbin .geq r4.1 (.int .i64 0)) fun t5 =>ob (gq (isB t5 false) (some v0)) fun t6 =>ob (ge (isB t5 false) r4.2 (O f0 [t6,(.int .u8 47)] r4.2)) fun r7 =>ob (gq (isB t5 false) (lbin .geq r7.1 (.int .i64 0))) fun t8 =>ob (lpick t5 (.bool true) t8) fun t9 =>cnd t9
 (some ((.int .i64 22),r7.2))
 (some ((.int .i64 0),r7.2))))
def stringsIndexByteS (cal:CB)(O:Oracle)(N:Nat)(f0:FuncId)(v0 v1:IV)(H:Heap):OH :=
 ob (O f0 [v0,v1] H) fun r1 =>some (r1.1,r1.2)
def iSibS (cal:CB)(O:Oracle)(N:Nat)(v0 v1:IV)(H:Heap):OH :=
 ob (lxtV H 0 [v0,v1]) fun r1 =>some (r1.1,r1.2)
def sDelS (cal:CB)(O:Oracle)(N:Nat)(v0 v1 v2:IV)(H:Heap):OH :=
 ob (llen H .slice v0) fun t1 =>ob (lslice H (.slice 2) v0 (some v1) (some v2) (some t1)) fun t2 =>ob (lbin .eql v1 v2) fun t3 =>cnd t3
 (some (v0,H))
 (ob (llen H .slice v0) fun t4 =>ob (lslice H (.slice 2) v0 none (some v1) none) fun t5 =>ob (lslice H (.slice 2) v0 (some v2) none none) fun t6 =>ob (lapp H 2 24 t5 t6) fun r7 =>ob (llen r7.2 .slice r7.1) fun t8 =>ob (lslice r7.2 (.slice 2) r7.1 (some t8) (some t4) none) fun t9 =>ob (lclrS r7.2 [(.str []),(.int .i64 0)] t9) fun r10 =>some (r7.1,r10.2))
end Go.Shade
namespace Go.Shade
def X4K0 :LC:=.seq (.seq (.reg [ qM 7 2,qM 8 3,qO 9 (.bin .lss (.t 7) (.t 8))]) (.cond (.t 9) .skip (.exit 0))) (.seq (.block 1 (.drw [ qM 14 0,qM 15 2,qM 16 0,qM 17 3,qM 18 0,qM 19 3,qO 20 (.ix 2 (.t 18) (.t 19)),qO 21 (.ldn 2 (.t 20)),qM 22 0,qM 23 2,qO 24 (.ix 2 (.t 22) (.t 23)),qO 25 (.ldn 2 (.t 24)),qO 26 (.ix 2 (.t 14) (.t 15)),⟨none,(.st 2 (.t 26) (.t 21)),none⟩,qO 27 (.ix 2 (.t 16) (.t 17)),⟨none,(.st 2 (.t 27) (.t 25)),none⟩] [])) (.reg [ qM 10 2,qO 11 (.bin .add (.t 10) (k6 1)),qM 12 3,qO 13 (.bin .sub (.t 12) (k6 1)),qM 2 11,qM 3 13]))
def sRevC0 :LC:=.loop X4K0
def sRevC1 :LC:=.block 0 sRevC0
def X4K1 :LC:=.reg [ qM 4 0,qO 5 (.len .slice (.t 4)),qO 6 (.bin .sub (.t 5) (k6 1)),qO 2 (.mv (k6 0)),qM 3 6]
def sRevC2 :LC:=.seq X4K1 sRevC1
def sRevC0S (cal:CB)(O:Oracle)(N:Nat)(gE0:Heap->OH):Nat->IV->IV->IV->Heap->OH
 | 0,_,_,_,_=>none
 | n+1,v0,v2,v3,H =>ob (lbin .lss v2 v3) fun t1 =>cnd t1
  (ob (lix 2 v0 v3) fun t2 =>ob (lloadn H 2 t2) fun t3 =>ob (lix 2 v0 v2) fun t4 =>ob (lloadn H 2 t4) fun t5 =>ob (lix 2 v0 v2) fun t6 =>ob (lstV H 2 t6 t3) fun r7 =>ob (lix 2 v0 v3) fun t8 =>ob (lstV r7.2 2 t8 t5) fun r9 =>ob (lbin .add v2 (.int .i64 1)) fun t10 =>ob (lbin .sub v3 (.int .i64 1)) fun t11 =>
   sRevC0S cal O N gE0 n v0 t10 t11 r9.2)
  (gE0 H)
theorem sRevC0Eq (cal:CB)(O:Oracle)(N:Nat){k:KT (IV×Heap)}(gE0:Heap->OH)(hgE0:∀E H,k (.exit 0) E H=gE0 H):∀(n:Nat) (E:Sg) (H:Heap),itK (lxK cal O N X4K0) n E H k=sRevC0S cal O N gE0 n (lk E 0) (lk E 2) (lk E 3) H:=by
 have hk:k=(kE 0 (fun E H=>gE0 H) k):=(kE_mk hgE0 rfl);intro n
 induction n with
 | zero=>intro E H;rfl
 | succ n ih =>
  intro E H;rw[itK_succ,seqK_mk (g:=fun E H=>sRevC0S cal O N gE0 n (lk E 0) (lk E 2) (lk E 3) H) ih,hk];kernel_rfl
def sRevC1S (cal:CB)(O:Oracle)(N:Nat)(gN:Heap->OH)(v0 v2 v3:IV)(H:Heap):OH :=
  sRevC0S cal O N (fun H=>gN H) N v0 v2 v3 H
theorem sRevC1Eq (cal:CB)(O:Oracle)(N:Nat){k:KT (IV×Heap)}(gN:Heap->OH)(hgN:∀E H,k .normal E H=gN H):∀(E:Sg) (H:Heap),lxK cal O N sRevC1 E H k=sRevC1S cal O N gN (lk E 0) (lk E 2) (lk E 3) H:=by
 have hk:k=(kN (fun E H=>gN H) k):=(kN_mk hgN rfl);intro E H;rw[hk];show lxK cal O N sRevC0 E H (blockK 0 (kN (fun E H=>gN H) k))=_;exact sRevC0Eq cal O N (k:=(blockK 0 (kN (fun E H=>gN H) k))) gN (fun _ _=>rfl) N E H
def sRevC2S (cal:CB)(O:Oracle)(N:Nat)(gN:Heap->OH)(v0:IV)(H:Heap):OH :=
 ob (llen H .slice v0) fun t1 =>ob (lbin .sub t1 (.int .i64 1)) fun t2 =>
  sRevC1S cal O N (fun H=>gN H) v0 (.int .i64 0) t2 H
theorem sRevC2Eq (cal:CB)(O:Oracle)(N:Nat){k:KT (IV×Heap)}(gN:Heap->OH)(hgN:∀E H,k .normal E H=gN H):∀(E:Sg) (H:Heap),lxK cal O N sRevC2 E H k=sRevC2S cal O N gN (lk E 0) H:=by
 have hk:k=(kN (fun E H=>gN H) k):=(kN_mk hgN rfl);intro E H;rw[hk];show lxK cal O N X4K1 E H (seqK (lxK cal O N sRevC1) (kN (fun E H=>gN H) k))=_;rw[seqK_mk (g:=fun E H=>sRevC1S cal O N gN (lk E 0) (lk E 2) (lk E 3) H) (sRevC1Eq cal O N (k:=(kN (fun E H=>gN H) k)) gN (fun _ _=>rfl))];kernel_rfl
def sRev :LFun:=⟨sRevC2,[],28⟩
def sRevS (cal:CB)(O:Oracle)(N:Nat)(v0:IV)(H:Heap):OH :=
  sRevC2S cal O N (fun H=>some ((.tuple []),H)) v0 H
theorem sRevEq (cal:CB)(O:Oracle)(N:Nat)(v0:IV)(H:Heap):lrunK cal O N (sRev) [v0] H=sRevS cal O N v0 H:=by
 show lxK cal O N sRevC2 (initFrom 0 [v0]) H (endK [])=_;exact sRevC2Eq cal O N (k:=(endK [])) (fun H=>some ((.tuple []),H)) (fun _ _=>rfl) (initFrom 0 [v0]) H
def sRolS (cal:CB)(O:Oracle)(N:Nat)(f0:FuncId)(v0 v1:IV)(H:Heap):OH :=
 ob (lslice H (.slice 2) v0 none (some v1) none) fun t1 =>ob (O f0 [t1] H) fun r2 =>ob (lslice r2.2 (.slice 2) v0 (some v1) none none) fun t3 =>ob (O f0 [t3] r2.2) fun r4 =>ob (O f0 [v0] r4.2) fun r5 =>some ((.tuple []),r5.2)
def sRorS (cal:CB)(O:Oracle)(N:Nat)(f0:FuncId)(v0 v1:IV)(H:Heap):OH :=
 ob (llen H .slice v0) fun t1 =>ob (lbin .sub t1 v1) fun t2 =>ob (O f0 [v0,t2] H) fun r3 =>some ((.tuple []),r3.2)
end Go.Shade
