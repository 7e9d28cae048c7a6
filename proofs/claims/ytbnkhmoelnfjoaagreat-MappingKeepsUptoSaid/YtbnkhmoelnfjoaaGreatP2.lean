/- Part. -/
import Derived.Test.YtbnkhmoelnfjoaaGreatP1
import Derived.Lib.Bytealg
import Derived.Laws.Externs
import Derived.Maps.RangeRun
import Derived.RangeFuncRecord
import Derived.RangeFuncLeaves
import Derived.RecoverIn
import Derived.ProofKit
import Derived.OpenShut
set_option linter.all false
noncomputable section
namespace Go.bX
open Go.RowKit
variable {O:Type} {j i b M nx nx' new A:Nat} {o:Oper} {l l0 all:dd} {r l1:List Oc} {prev:List Rc} {T':Tf} {F' H' H:Hf} {out:Out} {ro:bP} {t:TypeId} {v x s y fv:SV} {us:dQ} {k:FuncId} {g':Gh} {h h1 h':Hs} {kp:SV->Hs->Out} {tm D9:de} {need frp newp:Nat->Prop} {K:Act->World->Prop} {ms:List MapEntry} {es:ji} {seen lg:br} {sa:Array Nat} {rec:lJ->Out} {aa xs fi svs cs:aY} {rs:List Rs} {fo:eh} {ao:Option aY} {e:Ex} {fn:Func} {w':World} {rv:ResultVar} {cur:ig}
section
variable {E:Env} {g:Gh} {f:Hf} {w:World}
variable {W:Nat}
def force_eq (m:Nat) (k:Nat->O):force m k=k m:=by cases m<;>rfl
def acG (m i:Nat):rO m i=true↔m.testBit i=true:=by
 unfold rO;rw[beq_iff];show (m>>>i) &&& 1=1↔_;rw[Nat.and_one_is_mod,Nat.testBit_eq_decide_div_mod_eq,Nat.shiftRight_eq_div_pow];simp
def WG {ops:dF} (h:ops[j]? =some o):direct ops j=mc o:=by simp[direct,h]
def G7 {ops:dF}:∀(n m j:Nat),n<=m->∀i∈mq ops n j,i∈mq ops m j
 |0,m,j,_,i,h=>by simp[mq] at h
 |n+1,0,j,hle,_,_=>by omega
 |n+1,m+1,j,hle,i,h=>by
  simp only[mq,eR,tT] at h ⊢;rcases h with h|⟨d,hd,h⟩
  ·exact .inl h
  ·exact .inr ⟨d,hd,G7 n m d (by omega) i h⟩
def J4 (ops:dF) (W M j:Nat):Prop:=∀p,M.testBit p=true->∃i b,i<j/\b<W/\p=i*W+b/\b∈mq ops (i+1) i
def atE {i' b':Nat} (h:i*W+b=i'*W+b') (h1:b<W) (h2:b'<W):i=i'/\b=b':=by
 have e1:(i*W+b) / W=i:=by rw[Nat.mul_comm,Nat.mul_add_div (by omega),Nat.div_eq_of_lt h1];omega
 have e2:(i'*W+b') / W=i':=by rw[Nat.mul_comm,Nat.mul_add_div (by omega),Nat.div_eq_of_lt h2];omega
 have:i=i':=by rw[<-e1,<-e2,h]
 subst this;exact ⟨rfl,by omega⟩
def MY {ops:dF} {W M j:Nat} (hM:J4 ops W M j) {x:Nat}:∀(ds:br),(nW W M ds).testBit x=true->∃i∈ds,x=i\/(i<j/\x∈mq ops (i+1) i)
 | [],h=>by simp[nW] at h
 |d::ds,h=>by
  have h:(nW W M ds|||((1<<<d)|||((M>>>(d*W)) % 2 ^ W))).testBit x=true:=h;rw[SK,SK,pE,pE] at h;rcases h with h|h|h
  ·let ⟨i,hi,h⟩:=MY hM ds h;exact ⟨i,by simp[hi],h⟩
  ·rw[Nat.shiftLeft_eq,pt,Nat.testBit_two_pow] at h;exact ⟨d,by simp,.inl (by simpa using h.symm:d=x).symm⟩
  ·rw[agu,bF,Nat.testBit_shiftRight] at h;let ⟨h1,h2⟩:=h;let ⟨i,b,q1,q2,q3,q4⟩:=hM _ h2;have hx:x<W:=by simpa using h1
   obtain ⟨rfl,rfl⟩:=atE q3 hx q2;exact ⟨d,by simp,.inr ⟨q1,q4⟩⟩
def C6 {j:Nat}:∀{l:br},C7 j l=true->∀i∈l,i<j
 | [],_,i,hi=>by simp at hi
 |x::l,h,i,hi=>by
  unfold C7 at h;rw[bH] at h;split at h
  ·rename_i hx;rcases cH.1 hi with rfl|hi
   ·exact (bV _ _).1 hx
   ·exact C6 h i hi
  ·simp at h
def Wx {ops:dF} (hj:ops[j]? =some o) (hM:J4 ops W M j):
  (∀x,(Nat.mod (nW W M (mc o)) (Nat.pow 2 W)).testBit x=true->x<W/\x∈mq ops (j+1) j)/\
  J4 ops W (Nat.lor M (Nat.shiftLeft (Nat.mod (nW W M (mc o)) (Nat.pow 2 W)) (Nat.mul j W))) (j+1):=by
 have hdir:=WG hj;have hbit:∀x,(nW W M (mc o) % 2 ^ W).testBit x=true->x<W/\x∈mq ops (j+1) j:=by
  intro x hx;rw[agu,bF] at hx;refine ⟨by simpa using hx.1,?_⟩
  let ⟨i,hi,h⟩:=MY hM (mc o) hx.2;rw[<-hdir] at hi;simp only[mq,eR,tT];rcases h with rfl|⟨q1,q2⟩
  ·exact .inl hi
  ·exact .inr ⟨i,hi,G7 (i+1) j i (by omega) x q2⟩
 refine ⟨hbit,λp hp=> ?_⟩
 have hp:(M|||((nW W M (mc o) % 2 ^ W)<<<(j*W))).testBit p=true:=hp;rw[SK,pE] at hp;rcases hp with hp|hp
 ·let ⟨i,b,q1,q2,q3,q4⟩:=hM p hp;exact ⟨i,b,by omega,q2,q3,q4⟩
 ·rw[Nat.testBit_shiftLeft,bF] at hp;let ⟨p1,p2⟩:=hp;let ⟨q1,q2⟩:=hbit _ p2;have p1:j*W<=p:=by simpa using p1
  exact ⟨j,p-j*W,by omega,q1,by omega,q2⟩
def qf (x:Nat):∀(l:br),lQ x l=true↔x∈l
 | []=>by simp[lQ]
 |y::l=>by
  unfold lQ;rw[bH,beq_eq];by_cases h:x=y
  ·simp[h]
  ·simp only[h,aX,aC,aA,cH,false_or];exact qf x l
def rL:∀{l m:br},o5 l m=true->∀x∈l,x∉m
 | [],_,_,x,hx=>by simp at hx
 |y::l,m,h,x,hx=>by
  unfold o5 at h;rw[bH] at h;split at h
  ·simp at h
  ·rename_i hm;rcases cH.1 hx with rfl|hx
   ·exact λhc=>hm ((qf _ _).2 hc)
   ·exact rL h x hx
def vS {lo hi:Nat}:∀{l:br},IV lo hi l=true->∀x∈l,x<lo\/hi<=x
 | [],_,x,hx=>by simp at hx
 |y::l,h,x,hx=>by
  unfold IV at h;rw[bH,bH] at h;split at h
  ·rename_i h1;rcases cH.1 hx with rfl|hx
   ·exact .inl ((bV _ _).1 h1)
   ·exact vS h x hx
  ·split at h
   ·rename_i h1;rcases cH.1 hx with rfl|hx
    ·exact .inr ((bV _ _).1 h1)
    ·exact vS h x hx
   ·simp at h
def abc {l:br} (h:akH l=true):l= []:=by
 cases l with
 |nil=>rfl
 |cons _ _=>simp[akH] at h
def vf {m:Nat} {r:Rc}:∀{ps:List Rc},qj m r ps=true->∀p∈ps,rO m p.i=true\/PZ p r=true
 | [],_,p,hp=>by simp at hp
 |q::ps,h,p,hp=>by
  unfold qj at h;rw[bH,bH] at h;split at h
  ·rename_i h1;rcases cH.1 hp with rfl|hp
   ·exact .inl h1
   ·exact vf h p hp
  ·split at h
   ·rename_i h1;rcases cH.1 hp with rfl|hp
    ·exact .inr h1
    ·exact vf h p hp
   ·simp at h
structure QH (p r:Rc):Prop where
 a1:∀x∈r.rd,x<p.lo\/p.hi<=x
 a2:∀x∈r.wr,x<p.lo\/p.hi<=x
 a3:∀x∈p.rd,x<r.lo\/r.hi<=x
 a4:∀x∈p.wr,x<r.lo\/r.hi<=x
 b1:∀x∈p.rd,x∉r.wr
 b2:∀x∈r.rd,x∉p.wr
 b3:∀x∈p.wr,x∉r.wr
 c1:p.call=true->r.call=false/\r.wr= []
 c2:r.call=true->p.call=false/\p.wr= []
def M9 {p r:Rc} (h:PZ p r=true):QH p r:=by
 unfold PZ at h;simp only[bF] at h;let ⟨h1,h2,h3,h4,h5,h6,h7,h8⟩:=h;refine ⟨vS h1,vS h2,vS h3,vS h4,rL h5,rL h6,rL h7,λhp=> ?_,λhr=> ?_⟩
 ·rw[hp] at h8;cases hr:r.call with
  |true=>rw[hr] at h8;cases h8
  |false=>rw[hr] at h8;exact ⟨rfl,abc h8⟩
 ·rw[hr] at h8;cases hp:p.call with
  |true=>rw[hp] at h8;cases h8
  |false=>rw[hp] at h8;exact ⟨rfl,abc h8⟩
def agA:∀(xs:List Operand),Y3 xs=xs.filterMap fun| .tmp t=>some t|_=>none
 | []=>rfl
 |x::xs=>by
  have ih:=agA xs;cases x<;>simp[Y3,ih]
def Gv (ops:dF) (o:Oper):looks ops.toList o=o.looksAt ops:=by
 unfold looks Oper.looksAt;rw[agA];cases hg:o.guard with
 |none=>rfl
 |some p=>
  let ⟨j,b⟩:=p;simp only[Cz,lx];rfl
def zj {all:dd} {m:Nat} {r:Oper}:∀{k:Nat} {ps:dd},Ba all m r k ps=true->ps.length=k+1\/ps= []->∀j p,ps[j]? =some p->rO m (k-j)=true\/wj all p r=true
 |k,[],_,_,j,p,hp=>by simp at hp
 |k,q::ps,h,hl,j,p,hp=>by
  unfold Ba at h;rw[bH,bH] at h;have xi:ps.length=Nat.sub k 1+1\/ps= []:=by
   rcases hl with hl|hl
   ·simp at hl;cases k with
    |zero=>exact .inr (sn (by omega))
    |succ k=>exact .inl (by show ps.length=k+1-1+1;omega)
   ·simp at hl
  have hk:∀(j:Nat),ps[j]? =some p->Nat.sub k 1-j=k-(j+1):=λj _=>by show k-1-j=k-(j+1);omega
  split at h
  ·rename_i h1;cases j with
   |zero=>simp at hp;subst hp;exact .inl h1
   |succ j=>simp at hp;have:=zj h xi j p hp;rw[hk j hp] at this;exact this
  ·split at h
   ·rename_i h1;cases j with
    |zero=>simp at hp;subst hp;exact .inr h1
    |succ j=>simp at hp;have:=zj h xi j p hp;rw[hk j hp] at this;exact this
   ·simp at h
def IB {ops:dF} {W:Nat}:∀(l:dd) (i M:Nat) (prev:dd),AI W ops.toList l i M prev=true->ops.toList.drop i=l->prev=(ops.toList.take i).reverse->J4 ops W M i->
  ∀j,i<=j->j<ops.size->∀k,k<j->∀p r,ops[k]? =some p->ops[j]? =some r->k∈mq ops (j+1) j\/wj ops.toList p r=true
 | [],i,M,prev,h,hd,_,_,j,hj,Jj,_,_,_,_,_,_=>by
  have:ops.size<=i:=by simpa using hd
  omega
 |o::l,i,M,prev,h,hd,hp,hM,j,hj,Jj,k,hk,p,r,hpk,hr=>by
  have hi:i<ops.toList.length:=by
   by_cases hl:i<ops.toList.length
   ·exact hl
   ·rw[pr (by omega)] at hd;simp at hd
  rw[qJ hi] at hd;let ⟨ho,hl⟩:=OD hd;have hoi:ops[i]? =some o:=by
   have:ops.toList[i]? =some o:=by rw[dI hi,ho]
   simpa using this
  unfold AI at h;rw[force_eq,bH] at h;split at h
  ·rename_i hs;rw[force_eq] at h;let ⟨m1,m2⟩:=Wx hoi hM;by_cases hji:j=i
   ·subst hji;rw[hoi] at hr;obtain rfl:o=r:=by simpa using hr
    have Je:prev.length=j:=by rw[hp];simp at hi ⊢;omega
    have hg:prev[j-1-k]? =some p:=by
     rw[hp,List.getElem?_reverse (by simp at hi ⊢;omega)]
     simp at hi ⊢;rw[fB (by omega),eN,aH (by omega)]
     have:j-1-(j-1-k)=k:=by omega
     rw[this];simpa using hpk
    rcases zj hs (by
     cases hpp:prev with
     |nil=>exact .inr rfl
     |cons a b=>rw[hpp] at Je;left;simp at Je ⊢;show b.length=j-1;omega) (j-1-k) p hg with hb|hb
    ·have e:Nat.sub j 1-(j-1-k)=k:=by show j-1-(j-1-k)=k;omega
     rw[e] at hb;exact .inl (m1 k ((acG _ _).1 hb)).2
    ·exact .inr hb
   ·refine IB l (i+1) _ (o::prev) h hl ?_ m2 j (by omega) Jj k hk p r hpk hr
    have:ops.toList.take (i+1)=ops.toList.take i++ [o]:=by
     rw[vC,dI hi,ho];rfl
    rw[this,List.reverse_append,hp];rfl
  ·simp at h
end
section
variable {E:Env} {g:Gh} {w:World} {nt W base:Nat} {ops:dF}
variable {T:Tf} {a:Act} {Q:Exit->Act->World->Prop}
structure St where
 u:H5
 rc:Rc
 m:Nat
 need:Nat->Prop
 frp:Nat->Prop
 newp:Nat->Prop
instance:Inhabited St:=⟨⟨⟨none,.undef,λ_=>false,λ_=>none⟩,⟨0,false,[],[],0,0⟩,0,λ_=>False,λ_=>False,λ_=>False⟩⟩
structure Cnd (E:Env) (nt W:Nat) (ops:dF) (base i:Nat) (prev:List St) (o:Oper) (T:Tf) (F:Hf) (nx:Nat) (s:St) (nx1:Nat):Prop where
 dst:s.u.dst=o.dst
 step:∀ro,vj E ro nt ops i o T s.need F s.frp s.newp s.u.v s.u.D s.u.H
 lt:∀d∈mc o,d<i
 mq:∀b,rO s.m b=true->b∈mq ops (i+1) i
 rci:s.rc.i=i
 ind:∀p∈prev,rO s.m p.rc.i=true\/QH p.rc s.rc
 D:∀x,s.u.D x=true↔(x∈s.rc.wr\/(s.rc.lo<=x/\x<s.rc.hi))
 HM:s.rc.call=false->s.rc.lo=base+i/\s.rc.hi=base+i+1/\nx1=nx/\(∀x,s.need x->x∈s.rc.rd)/\(∀x,s.frp x->x=base+i)/\∀x,s.newp x->x=base+i
 cal:s.rc.call=true->s.rc.lo=nx/\s.rc.hi=nx1/\(∀x,s.need x->F x≠none/\∀p∈prev,rO s.m p.rc.i=false->x≠p.rc.lo)/\(∀x,s.frp x->nx<=x)/\∀x,s.newp x->nx<=x/\x<nx1
 Vf:nx<=nx1
 bd:∀x,F x≠none->¬(base+i<=x/\x<base+W)
 base:base+W<=nx
inductive DT (E:Env) (nt W:Nat) (ops:dF) (base:Nat):Nat->List St->dd->Tf->Hf->Nat->Tf->Hf->Nat->List St->Prop
 |nil {i prev T F nx:_}:DT E nt W ops base i prev [] T F nx T F nx prev
 |cons {i prev o l T F nx s nx1 T' F' nx' out:_} (c:Cnd E nt W ops base i prev o T F nx s nx1) (h:DT E nt W ops base (i+1) (s::prev) l (jk T s.u.dst s.u.v) (kO s.u.D s.u.H F) nx1 T' F' nx' out):DT E nt W ops base i prev (o::l) T F nx T' F' nx' out
def Wi (U:Nat->H5) (i j:Nat) (s:DS):eX U (List.range' i (j+1)) (λ_=>true) s=eX U (List.range' (i+1) j) (λ_=>true) (s.app (U i)):=by
 simp[eX,yC]
def DT.steps {prev:List St} {F:Hf} {out:List St} (h:DT E nt W ops base i prev l T F nx T' F' nx' out):prev.length=i->
  out.length=i+l.length/\(∃new,out=new++prev)/\∃NX:Nat->Nat,NX i=nx/\NX (i+l.length)=nx'/\
   (∀j o,l[j]? =some o->∃s,out.reverse[i+j]? =some s/\Cnd E nt W ops base (i+j) (out.drop (out.length-(i+j))) o (eX (λx=>(out.reverse.getD x default).u) (List.range' i j) (λ_=>true) ⟨T,F⟩).T
    (eX (λx=>(out.reverse.getD x default).u) (List.range' i j) (λ_=>true) ⟨T,F⟩).F (NX (i+j)) s (NX (i+j+1)))/\
   (⟨T',F'⟩:DS)=eX (λx=>(out.reverse.getD x default).u) (List.range' i l.length) (λ_=>true) ⟨T,F⟩:=by
 induction h with
 |nil=>
  intro hp;exact ⟨by simpa using hp,⟨[],rfl⟩,λ_=>_,rfl,rfl,by simp,by simp[eX]⟩
 | @cons i prev o l T F nx s nx1 T' F' nx' out c h ih=>
  intro hp;let ⟨q1,⟨new,q2⟩,NX,q3,q4,q5,q6⟩:=ih (by simp[hp])
  have hsi:out.reverse[i]? =some s:=by
   rw[q2];rw[List.reverse_append,List.reverse_cons,lu,nf (by simp;omega)]
   simp[hp]
  have hU:(out.reverse.getD i default).u=s.u:=by rw[Kv,hsi];rfl
  have DC:(⟨T,F⟩:DS).app (out.reverse.getD i default).u=⟨jk T s.u.dst s.u.v,kO s.u.D s.u.H F⟩:=by rw[hU];rfl
  refine ⟨by simp;omega,⟨new++ [s],by simp[q2]⟩,λk=>if k=i then nx else NX k,by simp,?_,?_,?_⟩
  ·simp only[kr];rw[aL (by omega)]
   rw[<-q4];congr 1;omega
  ·intro j o' ho;cases j with
   |zero=>
    simp at ho;subst ho;refine ⟨s,by simpa using hsi,?_⟩
    have e1:(if i+0+1=i then nx else NX (i+0+1))=nx1:=by rw[aL (by omega)];exact q3
    have e2:(if i+0=i then nx else NX (i+0))=nx:=by simp
    have e3:out.drop (out.length-(i+0))=prev:=by
     rw[q2];have:(new++s::prev).length-(i+0)=(new++ [s]).length:=by simp;omega
     rw[this,show new++s::prev=(new++ [s])++prev from by simp]
     simp
    simp only[e1,e2,e3];exact c
   |succ j=>
    simp at ho;let ⟨s',r1,r2⟩:=q5 j o' ho;refine ⟨s',by rw[<-r1];congr 1;omega,?_⟩
    have a1:i+(j+1)=i+1+j:=by omega
    rw[Wi,DC,a1];simp only[aL (show ¬i+1+j=i by omega),aL (show ¬i+1+j+1=i by omega)]
    exact r2
  ·rw[kr,Wi,DC];exact q6
def afQ {p r:Oper} (h:wj ops.toList p r=true):(∀t,p.dst=some t->t∉r.looksAt ops)/\(∀t,r.dst=some t->t∉p.looksAt ops)/\∀t,p.dst=some t->r.dst≠some t:=by
 unfold wj at h;rw[bF,bF,Gv,Gv] at h;let ⟨h1,h2,h3⟩:=h;refine ⟨λt ht=>rL h1 t (by simp[ht]),λt ht=>rL h2 t (by simp[ht]),λt ht hr=>rL h3 t (by simp[ht]) (by simp[hr])⟩
def afZ {F:Hf} {out:List St} (hs:AI ops.size ops.toList ops.toList 0 0 []=true) (Bz:E.P.follows .mixedOrders=true) (hpre:ops.toList.take l0.length=l0) (hdt:DT E nt ops.size ops base 0 [] l0 T F nx T' F' nx' out) (hbn:base<=nx) {id m:Nat} (hE:dW E g) (ed:FR g nt T a.tmps) (hr:HR g F w) (l9:∀x,base<=x->g.Z x=none) (DA:l0.length=ops.size\/(l0.length+1=ops.size/\(∀d∈direct ops l0.length,d<l0.length)/\(∀j,j<l0.length->j∈mq ops ops.size l0.length)/\∀(g':Gh) (a':Act) (w':World) (K:Act->World->Prop),dW E g'->FR g' nt T' a'.tmps->HR g' F' w'->Fr g F w g' F' w'->a'.defers=a.defers->
   (∀x,x<base->g'.Z x=g.Z x)->(∀x,nx'<=x->g'.Z x=none)->wpOpIn (ow ro) m E.P ops Q l0.length K a' w')) (hq:l0.length=ops.size->∀g' a' w',FR g' nt T' a'.tmps->HR g' F' w'->Fr g F w g' F' w'->a'.defers=a.defers->(∀x,x<base->g'.Z x=g.Z x)->(∀x,nx'<=x->g'.Z x=none)->Q .normal a' w'):(Code.region id ops true).wpIn (ow ro) m E.P Q a w:=by
 let ⟨ol,_,NX,n0,n1,cnd,fin⟩:=hdt.steps rfl;simp only[cA] at ol n1 cnd fin;have hnn:l0.length<=ops.size:=by rcases DA with h|h<;>omega
 have eT:∀j (hj:j<l0.length),l0[j]? =some (ops[j]'(by omega)):=by
  intro j hj;have h1:(ops.toList.take l0.length)[j]? =some (ops[j]'(by omega)):=by
   rw[eN,aH hj];simp[show j<ops.size by omega]
  rw[hpre] at h1;exact h1
 let S:Nat->St:=λx=>out.reverse.getD x default
 have hS:∀j (hj:j<l0.length),Cnd E nt ops.size ops base j (out.drop (out.length-j)) (ops[j]'(by omega)) (eX (λx=>(S x).u) (List.range' 0 j) (λ_=>true) ⟨T,F⟩).T (eX (λx=>(S x).u) (List.range' 0 j) (λ_=>true) ⟨T,F⟩).F (NX j) (S j) (NX (j+1)):=by
  intro j hj;let ⟨s,r1,r2⟩:=cnd j (ops[j]'(by omega)) (eT j hj)
  have:S j=s:=by simp only[S,Kv,r1];rfl
  rw[this];exact r2
 have aKa:∀d j,j+d<=l0.length->NX j<=NX (j+d):=by
  intro d;induction d with
  |zero=>intro j _;exact dg _
  |succ d ih=>intro j hj;exact jj (ih j (by omega)) ((hS (j+d) (by omega)).Vf)
 have P2:∀j k,j<=k->k<=l0.length->NX j<=NX k:=λj k h1 h2=>by
  have:=aKa (k-j) j (by omega)
  rwa[show j+(k-j)=k by omega] at this
 have xZ:∀i j,i<j->j<l0.length->S i∈out.drop (out.length-j):=by
  intro i j CJ hj;have hi:i<out.reverse.length:=by simp;omega
  have e:out.drop (out.length-j)=(out.reverse.take j).reverse:=by
   rw[List.take_reverse];simp
  rw[e,List.mem_reverse,List.mem_take_iff_getElem];refine ⟨i,by simp;omega,?_⟩
  simp only[S,Kv,dI hi,xr]
 have axZ:∀i j,i<j->j<l0.length->i∈mq ops ops.size j\/(rO (S j).m i=false/\QH (S i).rc (S j).rc/\∀p r,ops[i]? =some p->ops[j]? =some r->wj ops.toList p r=true):=by
  intro i j CJ hj;have ci:=hS i (by omega)
  have cj:=hS j hj;by_cases ha:i∈mq ops ops.size j
  ·exact .inl ha
  ·have hb:rO (S j).m i=false:=by
    cases hb:rO (S j).m i with
    |false=>rfl
    |true=>exact absurd (G7 _ _ _ (by omega) i (cj.mq i hb)) ha
   refine .inr ⟨hb,?_,λp r hp hr=> ?_⟩
   ·rcases cj.ind (S i) (xZ i j CJ hj) with h|h
    ·rw[ci.rci,hb] at h;simp at h
    ·exact h
   ·rcases IB ops.toList 0 0 [] hs (by simp) (by simp) (λp hp=>by simp at hp) j (qK _) (by omega) i CJ p r hp hr with h|h
    ·exact absurd (G7 _ _ _ (by omega) i h) ha
    ·exact h
 have auL:∀j,l0.length<=j->S j=default:=by
  intro j hj;show out.reverse.getD j default=default;rw[Kv,tQ (by simp;omega)]
  rfl
 have uo:∀(g':Gh) x,(x<base\/nx'<=x)->(∀y,g'.Z y≠g.Z y->∃k,k<l0.length/\(S k).newp y)->g'.Z x=g.Z x:=by
  intro g' x hx hy;by_cases he:g'.Z x=g.Z x
  ·exact he
  ·exfalso;let ⟨i,hi,hn⟩:=hy x he;have ci:=hS i hi;have hbi:=ci.base;have hm0:=P2 0 i (by omega) (by omega)
   have hm1:=P2 (i+1) l0.length (by omega) (dg _)
   have hm2:=ci.Vf;rw[n0] at hm0;rw[n1] at hm1;cases xm:(S i).rc.call with
   |false=>let ⟨_,_,_,_,_,e1⟩:=ci.HM xm;have:=e1 x hn;omega
   |true=>let ⟨_,_,_,_,e1⟩:=ci.cal xm;have:=e1 x hn;omega
 have hmm:=P2 0 l0.length (by omega) (dg _)
 rw[n0,n1] at hmm;refine alL (S:=λi=>l0.length<=i) (s0:=⟨T,F⟩) (U:=λx=>(S x).u) (need:=λi=>(S i).need) (frp:=λi=>(S i).frp) (newp:=λi=>(S i).newp) Bz (λi hi uk=>⟨(hS i (by omega)).dst,(hS i (by omega)).step ro⟩) (λj hj=> ?_) ?_ hE ed hr ?_ ?_ ?_
 ·by_cases hjn:l0.length<=j
  ·rcases DA with he|⟨he,h1,h2,_⟩
   ·omega
   ·have e:j=l0.length:=by omega
    subst e;exact ⟨h1,λi CJ=>.inl (h2 i CJ)⟩
  have hj0:=hj;have hj:j<l0.length:=by omega
  refine ⟨λi hi=> ?_,λi CJ=> ?_⟩
  ·rw[WG (nU hj0)] at hi;exact (hS j hj).lt i hi
  rcases axZ i j CJ hj with h|⟨hb,hI,EG⟩
  ·exact .inl h
  ·have sW:i<l0.length:=by omega
   have hi0:i<ops.size:=by omega
   have ci:=hS i sW;have cj:=hS j hj;have hbi:=ci.base;have hbj:=cj.base;let ⟨t1,t2,t3⟩:=afQ (EG ops[i] ops[j] (nU hi0) (nU hj0));refine .inr ⟨λt ht o ho=> ?_,λt ht o ho=> ?_,λt ht=> ?_,λx hx=> ?_,λx hx=> ?_,λx hx=> ?_⟩
   ·rw[nU hj0] at ho;cases ho;exact t1 t (by rw[<-ci.dst];exact ht)
   ·rw[nU hi0] at ho;cases ho;exact t2 t (by rw[<-cj.dst];exact ht)
   ·rw[cj.dst];exact t3 t (by rw[<-ci.dst];exact ht)
   ·cases hd:(S j).u.D x with
    |false=>rfl
    |true=>
     exfalso;rcases (ci.D x).1 hx with h1|h1<;>rcases (cj.D x).1 hd with h2|h2
     ·exact hI.b3 x h1 h2
     ·rcases hI.a4 x h1 with h|h<;>omega
     ·rcases hI.a2 x h2 with h|h<;>omega
     ·cases xm:(S i).rc.call with
      |false=>
       let ⟨e1,e2,_⟩:=ci.HM xm;cases hcj:(S j).rc.call with
       |false=>let ⟨e3,e4,_⟩:=cj.HM hcj;omega
       |true=>let ⟨e3,e4,_⟩:=cj.cal hcj;omega
      |true=>
       let ⟨e1,e2,_⟩:=ci.cal xm;let ⟨e3,_⟩:=hI.c1 xm;let ⟨e4,e5,_⟩:=cj.HM e3;omega
   ·cases hd:(S i).u.D x with
    |false=>rfl
    |true=>
     exfalso;cases hcj:(S j).rc.call with
     |false=>
      let ⟨_,_,_,e,_⟩:=cj.HM hcj;rcases (ci.D x).1 hd with h1|h1
      ·exact hI.b2 x (e x hx) h1
      ·rcases hI.a1 x (e x hx) with h|h<;>omega
     |true=>
      let ⟨_,_,e,_⟩:=cj.cal hcj;let ⟨k1,k2⟩:=hI.c2 hcj;let ⟨e1,e2,_⟩:=ci.HM k1;rcases (ci.D x).1 hd with h1|h1
      ·rw[k2] at h1;simp at h1
      ·exact (e x hx).2 (S i) (xZ i j CJ hj) (by rw[ci.rci];exact hb) (by omega)
   ·cases hd:(S j).u.D x with
    |false=>rfl
    |true=>
     exfalso;cases xm:(S i).rc.call with
     |false=>
      let ⟨_,_,_,e,_⟩:=ci.HM xm;rcases (cj.D x).1 hd with h1|h1
      ·exact hI.b1 x (e x hx) h1
      ·rcases hI.a3 x (e x hx) with h|h<;>omega
     |true=>
      let ⟨_,_,e,_⟩:=ci.cal xm;let ⟨k1,k2⟩:=hI.c1 xm;let ⟨e1,e2,_⟩:=cj.HM k1;rcases (cj.D x).1 hd with h1|h1
      ·rw[k2] at h1;simp at h1
      ·exact ci.bd x (e x hx).1 ⟨by omega,by omega⟩
 ·intro i k hi hk cZ x hx hn;by_cases uP:l0.length<=i
  ·have hx:(S i).frp x:=hx;rw[auL i uP] at hx;exact hx.elim
  by_cases BA:l0.length<=k
  ·have hn:(S k).newp x:=hn;rw[auL k BA] at hn;exact hn.elim
  have hi:i<l0.length:=by omega
  have hk:k<l0.length:=by omega
  have ci:=hS i hi;have ck:=hS k hk;have hbi:=ci.base;have hbk:=ck.base;cases xm:(S i).rc.call with
  |false=>
   let ⟨_,_,_,_,e1,_⟩:=ci.HM xm;have:=e1 x hx;cases EN:(S k).rc.call with
   |false=>let ⟨_,_,_,_,_,e2⟩:=ck.HM EN;have:=e2 x hn;omega
   |true=>let ⟨_,_,_,_,e2⟩:=ck.cal EN;have:=e2 x hn;omega
  |true=>
   let ⟨_,_,_,e1,_⟩:=ci.cal xm;have h1:=e1 x hx;cases EN:(S k).rc.call with
   |false=>let ⟨_,_,_,_,_,e2⟩:=ck.HM EN;have:=e2 x hn;omega
   |true=>
    let ⟨_,_,_,_,e2⟩:=ck.cal EN;have h2:=e2 x hn;rcases Nat.lt_or_gt_of_ne cZ with cY|hgt
    ·rcases axZ i k cY hk with h|⟨_,hI,_⟩
     ·exact h
     ·have:=(hI.c1 xm).1;rw[EN] at this;simp at this
    ·have:=P2 (k+1) i (by omega) (by omega)
     omega
 ·intro i hi x hx;by_cases uP:l0.length<=i
  ·have hx:(S i).frp x:=hx;rw[auL i uP] at hx;exact hx.elim
  have hi:i<l0.length:=by omega
  have ci:=hS i hi;have hbi:=ci.base;cases xm:(S i).rc.call with
  |false=>let ⟨_,_,_,_,e1,_⟩:=ci.HM xm;exact l9 x (by have:=e1 x hx;omega)
  |true=>let ⟨_,_,_,e1,_⟩:=ci.cal xm;exact l9 x (by have:=e1 x hx;omega)
 ·intro i hi hSi;rcases DA with he|⟨he,_,h2,h3⟩
  ·have hSi:l0.length<=i:=hSi;omega
  ·have hSi:l0.length<=i:=hSi;have e:i=l0.length:=by omega
   subst e;refine ⟨he,h2,λg1 a1 w1 K q1 q2 q3 q4 q5 q6=> ?_⟩
   have Vt:(⟨T',F'⟩:DS)=eX (λx=>(S x).u) (List.range' 0 l0.length) (λ_=>true) ⟨T,F⟩:=fin
   rw[<-Vt] at q2 q3 q4;exact h3 g1 a1 w1 K q1 q2 q3 q4 q5 (λx hx=>uo g1 x (.inl hx) q6) (λx hx=>by rw[uo g1 x (.inr hx) q6];exact l9 x (by omega))
 ·intro uk g' a' w' h1 h2 h3 h4 h5;have he:l0.length=ops.size:=by
   rcases DA with he|⟨he,_⟩
   ·exact he
   ·exact absurd (dg _) (uk l0.length (by omega))
  have Vt:(⟨T',F'⟩:DS)=eX (λx=>(S x).u) (List.range' 0 ops.size) (λ_=>true) ⟨T,F⟩:=by rw[<-he];exact fin
  rw[<-Vt] at h1 h2 h3;have h5':∀y,g'.Z y≠g.Z y->∃k,k<l0.length/\(S k).newp y:=by
   intro y hy;apply nA;intro hc;exact hy (h5 y (λi hi hn=>hc ⟨i,by omega,hn⟩))
  exact hq he g' a' w' h1 h2 h3 h4 (λx hx=>uo g' x (.inl hx) h5') (λx hx=>by rw[uo g' x (.inr hx) h5'];exact l9 x (by omega))
end
section
variable {E:Env} {g:Gh} {f:Hf} {w:World} {T:Tf}
variable {a:SV}
def tK (f:Hf) (new:Nat) (us:dQ):Prop:=∀u∈us,u.1=new\/f u.1≠none
def keys_nil:tK f new []:=λu hu=>by simp at hu
def qh {o:Option SO}:tK f new [(new,o)]:=λu hu=>by simp at hu;subst hu;exact .inl rfl
def xT {id:Nat} {o:Option SO} (h:f id≠none):tK f new [(id,o)]:=λu hu=>by simp at hu;subst hu;exact .inr h
def afN (h:rW E f t v a=some us):tK f new us:=by
 let ⟨q,h1,h⟩:=aq h;let ⟨i,xs,p,_,_,hp,h⟩:=pY h;let ⟨_,h⟩:=aV h;cases h;exact xT (by rw[kU hp];simp)
def Wf {k:SV} (h:vn E f t x k v=some us):tK f new us:=by
 let ⟨id,_,h⟩:=aq h;let ⟨i,_,h⟩:=aq h;let ⟨q,_,h⟩:=aq h;let ⟨ik,p,_,hp,h⟩:=bp h;let ⟨_,h⟩:=aV h;let ⟨r,_,h⟩:=aq h;cases h;exact xT (by rw[yM hp];simp)
def acM (h:nN E f new t s x=some (v,us)):tK f new us:=by
 let ⟨i,_,h⟩:=aq h;let ⟨e,_,h⟩:=aq h;let ⟨ie,_,h⟩:=aq (show az (E.ty.get e) _=some (v,us) from h);let ⟨_,h⟩:=aV h;let ⟨q,_,h⟩:=aq h;let ⟨_,h⟩:=aV h;rw[bH] at h;split at h
 ·let ⟨_,h⟩:=aV h;cases h;exact keys_nil
 ·cases s with
  |dE=>cases (show some (SV.sl new 0 q.1 (.u e),[(new,some (SO.cells e q.2))])=some (v,us) from h);exact qh
  |sl id off n cap=>
   let ⟨_,h⟩:=aV (show aQ (Nat.ble n 1000000) (aQ (XF n q.1 cap) (az (mj f id off (Nat.mul n ie.size)) λold=>wv new e (Nat.add n q.1) (old++q.2) []) (bT (nq (f id)) (mj f id off (Nat.mul n ie.size)) λp old=>Qy new e ie.size id off n cap q.1 q.2 p old)) none=some (v,us) from h)
   rw[bH] at h;split at h
   ·let ⟨old,_,h⟩:=aq h;cases h;exact qh
   ·let ⟨p,old,hp,_,h⟩:=bp h;have hf:f id≠none:=by rw[kU hp];simp
    cases cap with
    |k c=>
     have h:aQ (Nat.ble (Nat.add n q.1) c) (aQ (Nat.ble (Nat.add off (Nat.mul (Nat.add n q.1) ie.size)) p.2.length) (some (SV.sl id off (Nat.add n q.1) (.k c),[(id,some (SO.cells p.1 (eK p.2 (Nat.add off (Nat.mul n ie.size)) q.2)))])) none)
      (wv new e (Nat.add n q.1) (old++q.2) [])=some (v,us):=h
     rw[bH] at h;split at h
     ·let ⟨_,h⟩:=aV h;cases h;exact xT hf
     ·cases h;exact qh
    |u e0=>
     let ⟨_,h⟩:=aV (show aQ (Nat.ble (Nat.add off (Nat.mul n ie.size)) p.2.length&&Nat.beq e p.1) (wv new e (Nat.add n q.1) (old++q.2) [(id,none)]) none=some (v,us) from h);cases h;intro u hu;simp at hu;rcases hu with rfl|rfl
     ·exact .inr hf
     ·exact .inl rfl
  |_=>cases h
def j0 {r:eh} (h:same r=some (v,us)):tK f new us:=by
 let ⟨z,_,h⟩:=aq h;cases h;exact keys_nil
def aaY {op:Op} (ho:qT E op T f new=some (v,us)):tK f new us:=by
 cases op with
 |move x=>
  let ⟨y,hy,ho⟩:=aq (show az (cE T x) (λv=>some (v,([]:dQ)))=some (v,us) from ho)
  cases ho;exact keys_nil
 |assign x=>
  let ⟨y,hy,ho⟩:=aq (show az (cE T x) (λv=>some (v,([]:dQ)))=some (v,us) from ho)
  cases ho;exact keys_nil
 |pick c x y=>
  let ⟨cv,hc,ho⟩:=aq (show az (cE T c) (λv=>az (oU v) λb=>one T (aQ b x y) λv=>some (v,([]:dQ)))=some (v,us) from ho)
  let ⟨b,hb,ho⟩:=aq ho;let ⟨z,hz,ho⟩:=aq ho;cases ho;exact keys_nil
 |alloc e=>
  let ⟨i,hi,ho⟩:=aq (show az (E.ty.get e) (λi=>some (SV.ptr new 0,[(new,some (SO.cells e i.zero))]))=some (v,us) from ho)
  cases ho;exact qh
 |box e x=>
  let ⟨y,hy,ho⟩:=aq (show az (cE T x) (Xx new e)=some (v,us) from ho);let ⟨cs,hc,ho⟩:=aq ho;cases ho;exact qh
 |build t parts=>
  let ⟨ia,hpc,ho⟩:=aq (show az (ku T parts.toList) (λia=>same (E1 E t ia))=some (v,us) from ho)
  exact j0 ho
 |buildSlice t len parts=>
  let ⟨ia,hpc,ho⟩:=aq (show az (ku T parts.toList) (λia=>ti E new t len ia)=some (v,us) from ho)
  let ⟨i,hi,ho⟩:=aq ho;let ⟨e,he,ho⟩:=aq ho;let ⟨ie,hie,ho⟩:=aq ho;let ⟨hc,ho⟩:=aV ho;let ⟨cs,hf,ho⟩:=aq ho;cases ho;exact qh
 |insert t m k x=>
  let ⟨y1,y2,h1,h2,ho⟩:=bp (show bT (cE T m) (cE T k) (λa b=>one T x λc=>unit (vn E f t a b c))=some (v,us) from ho)
  let ⟨y3,h3,ho⟩:=aq ho;let ⟨us',hu,ho⟩:=aq ho;cases ho;exact Wf hu
 |mapUpdate t m k x=>
  let ⟨y1,y2,h1,h2,ho⟩:=bp (show bT (cE T m) (cE T k) (λa b=>one T x λc=>unit (vn E f t a b c))=some (v,us) from ho)
  let ⟨y3,h3,ho⟩:=aq ho;let ⟨us',hu,ho⟩:=aq ho;cases ho;exact Wf hu
 |load t x=>
  let ⟨y,hy,ho⟩:=aq (show az (cE T x) (λv=>same (oX E f t v))=some (v,us) from ho)
  exact j0 ho
 |store t x y=>
  let ⟨y1,y2,h1,h2,ho⟩:=bp (show bT (cE T x) (cE T y) (λa v=>unit (rW E f t v a))=some (v,us) from ho)
  let ⟨us',hu,ho⟩:=aq ho;cases ho;exact afN hu
 |nilCheck x=>
  let ⟨y,hy,ho⟩:=aq (show az (cE T x) (λv=>same (PA v))=some (v,us) from ho)
  exact j0 ho
 |binOp op t x y yt=>
  let ⟨y1,y2,h1,h2,ho⟩:=bp (show bT (cE T x) (cE T y) (λv u=>same (JR E op t x y v u))=some (v,us) from ho)
  exact j0 ho
 |unOp op t x=>
  let ⟨y,hy,ho⟩:=aq (show az (cE T x) (λv=>same (unA op v))=some (v,us) from ho)
  exact j0 ho
 |convert s d x=>
  let ⟨y,hy,ho⟩:=aq (show az (cE T x) (λv=>same (LZ E s d v))=some (v,us) from ho)
  exact j0 ho
 |makeFunc fn first eG=>
  let ⟨js,ho⟩:=aV (show aQ (Vc fn) (bT (fT T first.toList) (fT T eG.toList) λl m=>some (SV.fn fn l m,([]:dQ))) none=some (v,us) from ho)
  let ⟨l,m,h1,h2,ho⟩:=bp ho;cases ho;exact keys_nil
 |makeMap t r=>
  cases r with
  |none=>cases (show some (SV.mp new,[(new,some (SO.map [] 0))])=some (v,us) from ho);exact qh
  |some x=>
   let ⟨i,y,hi,hy,ho⟩:=bp (show bT (E.ty.get t) (cE T x) (λi v=>bT (Bm i.desc) (kX v) λ_ _=>PC new)=some (v,us) from ho)
   let ⟨q,n,hq,Jg,ho⟩:=bp ho;cases ho;exact qh
 |makeSlice t l c=>
  let ⟨y1,y2,h1,h2,ho⟩:=bp (show bT (cE T l) (cE T c) (λu v=>bT (kX u) (kX v) (Bj E new t))=some (v,us) from ho)
  let ⟨n1,n2,k1,k2,ho⟩:=bp ho;let ⟨i,hi,ho⟩:=aq ho;let ⟨e,he,ho⟩:=aq ho;let ⟨ie,hie,ho⟩:=aq ho;let ⟨hc,ho⟩:=aV ho;cases ho;exact qh
 |slice t x lo hi mx=>
  let ⟨y,hy,ho⟩:=aq (show az (cE T x) (λv=>rP (j1 T lo) (j1 T hi) (j1 T mx) λl u m=>same (Bb E t v l u m))=some (v,us) from ho)
  let ⟨l,u,m,h1,h2,h3,ho⟩:=pY ho;exact j0 ho
 |fieldAddr s x k=>
  let ⟨y,hy,ho⟩:=aq (show az (cE T x) (ou E s k)=some (v,us) from ho);let ⟨i,p,hi,hp,ho⟩:=bp ho;let ⟨fs,Jm,ho⟩:=aq ho;let ⟨fl,yX,ho⟩:=aq ho;let ⟨fi,hfi,ho⟩:=aq ho;let ⟨hc,ho⟩:=aV ho;cases ho;exact keys_nil
 |field t x k=>
  let ⟨y,hy,ho⟩:=aq (show az (cE T x) (xP E t k)=some (v,us) from ho);let ⟨i,cs,hi,hp,ho⟩:=bp ho;let ⟨fs,Jm,ho⟩:=aq ho;let ⟨fl,yX,ho⟩:=aq ho;let ⟨fi,hfi,ho⟩:=aq ho;exact j0 ho
 |indexAddr t x ix=>
  let ⟨y1,y2,h1,h2,ho⟩:=bp (show bT (cE T x) (cE T ix) (λv u=>az (kX u) λk=>same (oj E t v k))=some (v,us) from ho)
  let ⟨n,Jg,ho⟩:=aq ho;exact j0 ho
 |index t x ix=>
  let ⟨y1,y2,h1,h2,ho⟩:=bp (show bT (cE T x) (cE T ix) (λv u=>az (kX u) λk=>vR E t k v)=some (v,us) from ho)
  let ⟨n,Jg,ho⟩:=aq ho;let ⟨i,hi,ho⟩:=aq ho;generalize i.desc=D at ho;cases D with
  |string=>
   let ⟨s,hs,ho⟩:=aq (show az (strOf y1) (λs=>az (s.data.toList[n]?) λb=>some (SV.int .u8 (.lit (.ofNat b.toNat)),([]:dQ)))=some (v,us) from ho)
   let ⟨b,hb,ho⟩:=aq ho;cases ho;exact keys_nil
  |array m e=>
   let ⟨cs,ie,Jp,hie,ho⟩:=bp (show bT (G9 y1) (E.ty.get e) (λcs ie=>aQ (Nat.ble (Nat.succ n) m) (same (ij ie cs (Nat.mul n ie.size))) none)=some (v,us) from ho)
   let ⟨hc,ho⟩:=aV ho;exact j0 ho
  |_=>cases ho
 |lookup t x k ok=>
  let ⟨y1,y2,h1,h2,ho⟩:=bp (show bT (cE T x) (cE T k) (λa b=>same (sD E f t a b ok))=some (v,us) from ho)
  exact j0 ho
 |range t x=>
  let ⟨y,hy,ho⟩:=aq (show az (cE T x) (vQ E f new t)=some (v,us) from ho);let ⟨i,hi,ho⟩:=aq ho;let ⟨q,hq,ho⟩:=aq ho;cases ho;exact qh
 |next it tq=>
  let ⟨y,hy,ho⟩:=aq (show az (cE T it) (yK f tq)=some (v,us) from ho);let ⟨hs,ho⟩:=aV ho;let ⟨id,iN,ho⟩:=aq ho;let ⟨p,hp,ho⟩:=aq ho;have ho:some (xQ id p)=some (v,us):=ho;unfold xQ at ho;rw[bH] at ho;split at ho
  ·cases ho;exact xT (by rw[PQ hp];simp)
  ·cases ho;exact keys_nil
 |extract x i=>
  let ⟨y,hy,ho⟩:=aq (show az (cE T x) (λv=>az (OI v) λvs=>same (vs[i]?))=some (v,us) from ho)
  let ⟨vs,wB,ho⟩:=aq ho;exact j0 ho
 |call c=>
  have ho:rY E T f new c=some (v,us):=ho;unfold rY at ho;split at ho
  ·rename_i b hb;let ⟨aa,has,ho⟩:=aq ho;cases b with
   |len=>
    let ⟨x,t,h1,h2,ho⟩:=bp (show bT aa.head? c.argTypes.toList.head? (λx t=>aQ (Nat.beq aa.length 1) (az (E.ty.get t) λi=>same (xS i.desc x f)) none)=some (v,us) from ho)
    let ⟨hl,ho⟩:=aV ho;let ⟨i,hi,ho⟩:=aq ho;exact j0 ho
   |append=>
    let ⟨p,q,h1,h2,ho⟩:=bp (show bT (uA aa) (uA c.argTypes.toList) (λp q=>az (E.ty.get q.2) λi=>aQ (II i.desc) (nN E f new q.1 p.1 p.2) none)=some (v,us) from ho)
    let ⟨i,hi,ho⟩:=aq ho;let ⟨hr,ho⟩:=aV ho;exact acM ho
   |min=>
    let ⟨p,h1,ho⟩:=aq (show az (uA aa) (λp=>same (IZ E false p.1 p.2))=some (v,us) from ho)
    exact j0 ho
   |max=>
    let ⟨p,h1,ho⟩:=aq (show az (uA aa) (λp=>same (IZ E true p.1 p.2))=some (v,us) from ho)
    exact j0 ho
   |_=>cases ho
  ·cases ho
 |_=>cases ho
end
section
variable {E:Env} {g:Gh} {f:Hf} {w:World}
variable {nt:Nat} {D:Nat->Bool} {T:Tf}
def PJ (F:Fence) (n:Nat) (P:Program) (c:Code) (Q:Exit->Act->World->Prop) (a:Act) (w:World):Prop:=
 ∀(b:Frame) (k:List Item) (cs:List Frame),b.roundOf=F.round->F.fn b.fn->F.room (cs.length+1+n)->
  ∃e a' w',Q e a' w'/\ArrivesIn (Machine.fenced P F) P (lone (b.atR a (.code c:: .inLoop c::k)) cs w) b k cs e a' w'
def wpX (F:Fence) (n:Nat) (P:Program) (c:Code) (Q:Exit->Act->World->Prop) (a:Act) (w:World):Prop:=
 match c with
 | .loop b=>PJ F n P b Q a w
 |c=>c.wpIn F n P Q a w
inductive ExR (g:Gh):Ex->Exit->Prop
 |normal:ExR g .normal .normal
 |exit (id:_):ExR g (.exit id) (.exit id)
 |ret:ExR g .ret .ret
 |fR {v u:_} (h:VR g u v):ExR g (.fR v) (.panic [{v:=u,recovered:=false}])
inductive Marks (g:Gh):List Dm->List Deferred->Prop
 |nil:Marks g [] []
 |mark {d mk r o ds:_} (h:g.Z d=some (r,o)) (ht:Marks g mk ds):Marks g (.mark d::mk) ({target:=.collected r,args:= #[]}::ds)
 |fn {k aa ca mk ds:_} {us cs:ig} (h1:j8 g us.toList aa) (h2:j8 g cs.toList ca) (ht:Marks g mk ds):Marks g (.fn k aa ca::mk) ({target:=.fn (.func k) cs,args:=us}::ds)
def Marks.mono {g:Gh} (hle:g.le g'):∀{mk:List Dm} {ds:List Deferred},Marks g mk ds->Marks g' mk ds
 |_,_,.nil=>.nil
 |_,_,.mark h ht=>.mark (hle.Z _ _ h) (ht.mono hle)
 |_,_,.fn h1 h2 ht=>.fn (h1.mono hle) (h2.mono hle) (ht.mono hle)
def Bd (h:Hs):Prop:=∀x,h.nx<=x->h.hp.get x=none
structure p9 (h h':Hs):Prop where
 nx:h.nx<=h'.nx
 bd:Bd h'
 lg:∀x,x<h.nx->x∉h'.lg->h'.hp.get x=h.hp.get x
 sub:∀x∈h.lg,x∈h'.lg
 dead:∀x,x<h.nx->h.hp.get x=none->h'.hp.get x=none
def p9.refl {h:Hs} (hb:Bd h):p9 h h:=⟨dg _,hb,λ_ _ _=>rfl,λ_ h=>h,λ_ _ h=>h⟩
def p9.trans {a b c:Hs} (h:p9 a b) (k:p9 b c):p9 a c:=
 ⟨jj h.nx k.nx,k.bd,λx hx hn=>(k.lg x (mC hx h.nx) hn).trans (h.lg x hx (λhc=>hn (k.sub x hc))),λx hx=>k.sub x (h.sub x hx),λx hx hn=>k.dead x (mC hx h.nx) (h.dead x hx hn)⟩
def oV (h:Hs) (mk mk':List Dm):Prop:=mk.length<=mk'.length/\∀x,Dm.mark x∈mk'->Dm.mark x∈mk\/h.nx<=x
def oV.refl (h:Hs) (mk:List Dm):oV h mk mk:=⟨dg _,λ_ hx=>.inl hx⟩
def oV.trans {mk Ey mk2:List Dm} (f1:h.nx<=h1.nx) (l1:oV h mk Ey) (l2:oV h1 Ey mk2):oV h mk mk2:=
 ⟨jj l1.1 l2.1,λx hx=>(l2.2 x hx).elim (l1.2 x) λhx=>.inr (jj f1 hx)⟩
def amF (nt:Nat) (g:Gh) (h:Hs) (w:World) (Q:Exit->Act->World->Prop) (o:Oc):Prop:=
 ∀g' a' w' x,ExR g' o.e x->FR g' nt o.tm.get a'.tmps->HR g' o.h.hp.get w'->Fr g h.hp.get w g' o.h.hp.get w'->Marks g' o.dm a'.defers->(∀x,o.h.nx<=x->g'.Z x=none)->(∀x,x<h.nx->g'.Z x=g.Z x)->Q x a' w'
def km (E:Env) (nt:Nat) (c:Code) (tm:de) (mk:List Dm) (h:Hs) (l:List Oc):Prop:=
 l≠ []/\(∀o∈l,p9 h o.h/\oV h mk o.dm)/\
 ∀(ro:bP) (m:Nat) (g:Gh) (a:Act) (w:World) (Q:Exit->Act->World->Prop),codeOk c=true->(ro=none\/∀o∈l,o.dm.length=mk.length)->dW E g->FR g nt tm.get a.tmps->HR g h.hp.get w->Marks g mk a.defers->(∀x,h.nx<=x->g.Z x=none)->
  (∀o∈l,amF nt g h w Q o)->wpX (ow ro) m E.P c Q a w
def OpsS (E:Env) (nt:Nat) (ops:dF) (l:dd) (tm:de) (mk:List Dm) (h:Hs) (r:List Oc):Prop:=
 r≠ []/\(∀o∈r,p9 h o.h/\oV h mk o.dm)/\
 ∀(ro:bP) (m:Nat) (g:Gh) (a:Act) (w:World) (Q:Exit->Act->World->Prop),(ro=none\/∀o∈r,o.dm.length=mk.length)->dW E g->FR g nt tm.get a.tmps->HR g h.hp.get w->Marks g mk a.defers->(∀x,h.nx<=x->g.Z x=none)->
  (∀o∈r,amF nt g h w Q o)->wpOpsIn (ow ro) m E.P ops Q (List.range' (ops.size-l.length) l.length) a w
structure FacD (base i W:Nat) (h h':Hs):Prop where
 nx:h.nx<=h'.nx
 bd:Bd h'
 lg:∀x,x<h.nx->¬(base+i<=x/\x<base+W)->x∉h'.lg->h'.hp.get x=h.hp.get x
 sub:∀x∈h.lg,x∈h'.lg
 dead:∀x,x<h.nx->¬(base+i<=x/\x<base+W)->h.hp.get x=none->h'.hp.get x=none
def Sound (E:Env):lJ->Out->Prop
 | .code nt c tm mk h,.db l=>Bd h->km E nt c tm mk h l
 | .ops nt all l tm mk h,.db r=>∀ops:dF,ops.toList=all->ops.toList.drop (ops.size-l.length)=l->Bd h->OpsS E nt ops l tm mk h r
 | .draw nt W all base i M prev l tm h,.st w6 h'=>∀ops:dF,ops.toList=all->W=ops.size->ops.toList.drop i=l->base+W<=h.nx->Bd h->(∀x,h.hp.get x≠none->¬(base+i<=x/\x<base+W))->J4 ops W M i->(∀p∈prev,p.call=false->p.hi=p.lo+1/\p.lo<base+W)->
   ∀ps:List St,ps.map (·.rc)=prev->FacD base i W h h'/\∃out,DT E nt W ops base i ps l tm.get h.hp.get h.nx w6.get h'.hp.get h'.nx out
 | .call fv aa h,.iA l=>Bd h->l≠ []/\(∀r∈l,p9 h r.h)/\yh E fv aa h.hp.get h.nx l
 |_,_=>True
structure BY (w w':World):Prop where
 os:w'.os=w.os
 tape:w'.tape=w.tape
 output:w'.output=w.output
 size:w.heap.size<=w'.heap.size
 heap:∀b,b<w.heap.size->w'.heap[b]? =w.heap[b]?
def Og (P:Program) (k:FuncId):Prop:=∃fn,P.funcs[k]? =some fn/\fn.body.isSome=true/\fn.name≠ "runtime.NumGoroutine"
def J7 (P:Program) (k:FuncId) (v:SV):Prop:=
 Og P k/\∀m w,CallsIn Fence.wide m P k #[] w λe w'=>∃r,e= .returned r/\(∀g,VR g r v)/\BY w w'
structure Wr (w w':World) (b:Nat) (e:TypeId) (iZ:ig):Prop where
 heap:w'.heap[b]? =some (.cells iZ e (0,0))
 size:w'.heap.size=w.heap.size
 HN:∀k,k≠b->w'.heap[k]? =w.heap[k]?
 os:w'.os=w.os
 tape:w'.tape=w.tape
 output:w'.output=w.output
structure Nw (w w':World) (e:TypeId) (iZ:ig):Prop where
 heap:w'.heap=w.heap.push (.cells iZ e (0,0))
 os:w'.os=w.os
 tape:w'.tape=w.tape
 output:w'.output=w.output
def anh (P:Program) (k:FuncId) (sz:Nat):Prop:=
 Og P k/\∀(m:Nat) (w:World) (b off n c i j:Nat) (cur:ig) (e:TypeId),w.heap[b]? =some (.cells cur e (0,0))->off+n*sz<=cur.size->(∀t,t<n*sz->∀v,cur[off+t]? =some v->v.oneCell'=true)->i<j->j<=n->n<=c->
  CallsIn Fence.wide m P k #[.slice (some ⟨b,off,none⟩) n c,.int .i64 i,.int .i64 j] w λr w'=>r= .returned (.slice (some ⟨b,off,none⟩) (n-(j-i)) c)/\∃iZ,Wr w w' b e iZ/\iZ.size=cur.size/\
   (∀t,(t<off+i*sz\/off+n*sz<=t)->iZ[t]? =cur[t]?)/\(∀t,t<n*sz-j*sz->iZ[off+i*sz+t]? =cur[off+j*sz+t]?)/\∀t,t<j*sz-i*sz->∃v,iZ[off+i*sz+(n*sz-j*sz)+t]? =some v/\v.oneCell'=true
def azj (P:Program) (k:FuncId) (e:TypeId) (sz:Nat):Prop:=
 Og P k/\∀(m:Nat) (w:World) (b off n c i vb ju q vc:Nat) (cur G1:ig) (ev:TypeId),w.heap[b]? =some (.cells cur e (0,0))->w.heap[vb]? =some (.cells G1 ev (0,0))->vb≠b->off+c*sz<=cur.size->ju+q*sz<=G1.size->
  (∀t,t<n*sz->∀v,cur[off+t]? =some v->v.oneCell'=true)->(∀t,t<q*sz->∀v,G1[ju+t]? =some v->v.oneCell'=true)->n<=c->n<=1000000->0<q->q<=1000000->i<=n->
  CallsIn Fence.wide m P k #[.slice (some ⟨b,off,none⟩) n c,.int .i64 i,.slice (some ⟨vb,ju,none⟩) q vc] w λr w'=>∃(b' o' c':Nat) (iZ:ig),r= .returned (.slice (some ⟨b',o',none⟩) (n+q) c')/\n+q<=c'/\o'+c'*sz<=iZ.size/\
   (∀t,t<(n+q)*sz->iZ[o'+t]? =(zu ((cur.toList.drop off).take (n*sz)) (i*sz) ((G1.toList.drop ju).take (q*sz)))[t]?)/\((b'=b/\o'=off/\Wr w w' b e iZ)\/(b'=w.heap.size/\o'=0/\Nw w w' e iZ))
def QG (P:Program) (k:FuncId) (z:Bool):Prop:=
 Og P k/\(∀(m:Nat) (w:World) (p:Option Addr) (c:Nat),CallsIn Fence.wide m P k #[.slice p 0 c] w λr w'=>r= .returned (aQ z (.tuple #[]) (.slice p 0 c))/\w'.heap=w.heap/\w'.os=w.os/\w'.tape=w.tape/\w'.output=w.output)/\
  ∀(m:Nat) (w:World) (b off c:Nat) (xs:List Int) (cur:ig) (e:TypeId),w.heap[b]? =some (.cells cur e (0,0))->0<xs.length->xs.length<=4294967295->xs.length<=c->(∀t x,xs[t]? =some x->cur[off+t]? =some (.int .i64 x))->
   CallsIn Fence.wide m P k #[.slice (some ⟨b,off,none⟩) xs.length c] w λr w'=>r= .returned (aQ z (.tuple #[]) (.slice (some ⟨b,off,none⟩) (kT xs).length c))/\∃w1 iZ,Wr w w1 b e iZ/\BY w1 w'/\iZ.size=cur.size/\
    (∀t,(t<off\/off+xs.length<=t)->iZ[t]? =cur[t]?)/\∀t x,(Ai z xs)[t]? =some x->iZ[off+t]? =some (.int .i64 x)
def Au (E:Env) (k c:Nat):Prop:=(1048576<=c->QG E.P k (Nat.beq c 1048576))/\(c<1048576->∀ie,E.ty.get (c / 2)=some ie->(c % 2=0->anh E.P k ie.size)/\(c % 2≠0->azj E.P k (c / 2) ie.size))
structure Ci (E:Env):Prop where
 fn:∀k fn,E.fn.get k=some fn->E.P.funcs[k]? =some fn/\XE fn=true
 ext:∀k fn,E.fn.get k=some fn->fn.body=none->(fn.name== "internal/bytealg.abigen_runtime_cmpstring")=true->Extern.findNext fn=none/\Extern.find fn=some Extern.BytealgCompare.compare
 mix:E.P.follows .mixedOrders=true
 done:∀k v,yb E k []=some v->J7 E.P k v
 prim:∀k c,wu k E.wh=some c->Au E k c
def amm {a b:Out} (h:acN a b= .db r):∃x y,a= .db x/\b= .db y/\r=x++y:=by
 cases a<;>cases b<;>first|(cases h;done)|(cases h;exact ⟨_,_,rfl,rfl,rfl⟩)
def asc {a b:Out} {r:List Rs} (h:acN a b= .iA r):∃x y,a= .iA x/\b= .iA y/\r=x++y:=by
 cases a<;>cases b<;>first|(cases h;done)|(cases h;exact ⟨_,_,rfl,rfl,rfl⟩)
def uf {J:Type} {k:J->Out}:∀{l:List J} {r:List Oc},wM k l= .db r->l≠ []/\(∀o∈l,∃r',k o= .db r'/\∀x∈r',x∈r)/\∀x∈r,∃o∈l,∃r',k o= .db r'/\x∈r'
 | [],r,h=>by cases h
 | [o],r,h=>by
  have h:k o= .db r:=h;refine ⟨by simp,λo' ho=> ?_,λx hx=>⟨o,by simp,r,h,hx⟩⟩
  obtain rfl:=ez.1 ho;exact ⟨r,h,λ_ hx=>hx⟩
 |o::o'::l,r,h=>by
  obtain ⟨x,y,h1,h2,rfl⟩:=amm (show acN (k o) (wM k (o'::l))= .db r from h);let ⟨_,q1,q2⟩:=uf h2;refine ⟨by simp,λz hz=> ?_,λz hz=> ?_⟩
  ·rcases cH.1 hz with rfl|hz
   ·exact ⟨x,h1,λa ha=>by simp[ha]⟩
   ·let ⟨r',e1,e2⟩:=q1 z hz;exact ⟨r',e1,λa ha=>by simp[e2 a ha]⟩
  ·rcases eR.1 hz with hz|hz
   ·exact ⟨o,by simp,x,h1,hz⟩
   ·let ⟨a,ha,r',e1,e2⟩:=q2 z hz;exact ⟨a,fO _ ha,r',e1,e2⟩
def JP {J:Type} {k:J->Out}:∀{l:List J} {r:List Rs},wM k l= .iA r->l≠ []/\(∀o∈l,∃r',k o= .iA r'/\∀x∈r',x∈r)/\∀x∈r,∃o∈l,∃r',k o= .iA r'/\x∈r'
 | [],r,h=>by cases h
 | [o],r,h=>by
  have h:k o= .iA r:=h;refine ⟨by simp,λo' ho=> ?_,λx hx=>⟨o,by simp,r,h,hx⟩⟩
  obtain rfl:=ez.1 ho;exact ⟨r,h,λ_ hx=>hx⟩
 |o::o'::l,r,h=>by
  obtain ⟨x,y,h1,h2,rfl⟩:=asc (show acN (k o) (wM k (o'::l))= .iA r from h);let ⟨_,q1,q2⟩:=JP h2;refine ⟨by simp,λz hz=> ?_,λz hz=> ?_⟩
  ·rcases cH.1 hz with rfl|hz
   ·exact ⟨x,h1,λa ha=>by simp[ha]⟩
   ·let ⟨r',e1,e2⟩:=q1 z hz;exact ⟨r',e1,λa ha=>by simp[e2 a ha]⟩
  ·rcases eR.1 hz with hz|hz
   ·exact ⟨o,by simp,x,h1,hz⟩
   ·let ⟨a,ha,r',e1,e2⟩:=q2 z hz;exact ⟨a,fO _ ha,r',e1,e2⟩
def Bk {r:Out} {k:Ex->de->List Dm->Hs->Out} {x:List Oc} (h:IU r k= .db x):∃l,r= .db l/\wM (λo:Oc=>k o.e o.tm o.dm o.h) l= .db x:=by
 cases r<;>first|(cases h;done)|exact ⟨_,rfl,h⟩
def age {r:Out} {k:Ex->de->List Dm->Hs->Out} {x:List Rs} (h:IU r k= .iA x):∃l,r= .db l/\wM (λo:Oc=>k o.e o.tm o.dm o.h) l= .iA x:=by
 cases r<;>first|(cases h;done)|exact ⟨_,rfl,h⟩
def ako {r:Out} {k:SV->Hs->Out} {x:List Oc} (h:aay r k kp= .db x):∃l,r= .iA l/\wM (λr:Rs=>aQ r.fR (kp r.v r.h) (k r.v r.h)) l= .db x:=by
 cases r<;>first|(cases h;done)|exact ⟨_,rfl,h⟩
def apg {r:Out} {k:SV->Hs->Out} {x:List Rs} (h:aay r k kp= .iA x):∃l,r= .iA l/\wM (λr:Rs=>aQ r.fR (kp r.v r.h) (k r.v r.h)) l= .iA x:=by
 cases r<;>first|(cases h;done)|exact ⟨_,rfl,h⟩
def YX:∀(us:dQ) (h:Hs),(∀x∈h.lg,x∈(h.lS us).lg)/\∀u∈us,u.1∈(h.lS us).lg
 | [],h=>⟨λ_ hx=>hx,λu hu=>by simp at hu⟩
 |u::us,h=>by
  let ⟨h1,h2⟩:=YX us (h.up u);refine ⟨λx hx=>h1 x (fO _ hx),λv hv=> ?_⟩
  rcases cH.1 hv with rfl|hv
  ·exact h1 v.1 (by simp[Hs.up])
  ·exact h2 v hv
def aiq (h:Hs) (us:dQ):(h.fin us).hp.get=gz h.hp.get us:=by
 cases us with
 |nil=>rfl
 |cons u us=>exact KH (u::us) h
def mm {x:Nat} (h:x∉us.map (·.1)) (F:Hf):gz F us x=F x:=by rw[AZ us F F x,aL h]
def air (hb:Bd h) (hk:tK h.hp.get h.nx us):p9 h (h.fin us):=by
 cases us with
 |nil=>exact p9.refl hb
 |cons u us=>
  have e:h.fin (u::us)=(h.lS (u::us)).bump:=rfl;have hn:(h.lS (u::us)).nx=h.nx:=Il _ _;have hg:(h.lS (u::us)).hp.get=gz h.hp.get (u::us):=KH _ _;have cY:∀v∈u::us,v.1<=h.nx:=λv hv=>by
   rcases hk v hv with h1|h1
   ·omega
   ·by_cases hl:h.nx<=v.1
    ·exact absurd (hb _ hl) h1
    ·omega
  let ⟨l1,l2⟩:=YX (u::us) h;refine ⟨?_,λx hx=> ?_,λx hx hl=> ?_,λx hx=>l1 x hx,λx hx hl=> ?_⟩
  ·rw[e];show h.nx<=(h.lS (u::us)).nx+1;omega
  ·rw[e] at hx ⊢;have hx:(h.lS (u::us)).nx+1<=x:=hx;show (h.lS (u::us)).hp.get x=none;rw[hg,mm (λhc=>by obtain ⟨v,hv,rfl⟩:=cO.1 hc;have:=cY v hv;omega)]
   exact hb x (by omega)
  ·rw[e] at hl ⊢;show (h.lS (u::us)).hp.get x=_;rw[hg,mm (λhc=>by obtain ⟨v,hv,rfl⟩:=cO.1 hc;exact hl (l2 v hv))]
  ·rw[e];show (h.lS (u::us)).hp.get x=_;rw[hg,mm (λhc=>by
    obtain ⟨v,hv,rfl⟩:=cO.1 hc;rcases hk v hv with h1|h1
    ·omega
    ·exact h1 hl)]
   exact hl
def aaT {ops:dF} (h:ops.toList.drop (ops.size-(o::l).length)=o::l):ops[ops.size-(o::l).length]? =some o/\ops.toList.drop (ops.size-l.length)=l/\ops.size-l.length=ops.size-(o::l).length+1:=by
 have hi:ops.size-(o::l).length<ops.toList.length:=by
  by_cases hl:ops.size-(o::l).length<ops.toList.length
  ·exact hl
  ·rw[pr (by omega)] at h;simp at h
 have hlen:(o::l).length<=ops.size:=by
  have:=bN List.length h;simp at this ⊢;omega
 rw[qJ hi] at h;let ⟨h1,h2⟩:=OD h;have e:ops.size-l.length=ops.size-(o::l).length+1:=by simp at hlen ⊢;omega
 refine ⟨?_,by rw[e];exact h2,e⟩
 have:ops.toList[ops.size-(o::l).length]? =some o:=by rw[dI hi,h1]
 simpa using this
def Gq {mk:List Dm} (W:List (de×List Dm×Hs)) (P:List Oc) (GG:∀(ops:dF) (i:Nat),ops.toList=all->ops[i]? =some o->Bd h->∀(ro:bP) (m:Nat) (g:Gh) (a:Act) (w:World) (K:Act->World->Prop) (Q:Exit->Act->World->Prop),(ro=none\/∀y∈W,y.2.1.length=mk.length)->dW E g->FR g nt tm.get a.tmps->HR g h.hp.get w->Marks g mk a.defers->(∀x,h.nx<=x->g.Z x=none)->
   (∀y∈W,∀g' a' w',FR g' nt y.1.get a'.tmps->HR g' y.2.2.hp.get w'->Fr g h.hp.get w g' y.2.2.hp.get w'->Marks g' y.2.1 a'.defers->(∀x,y.2.2.nx<=x->g'.Z x=none)->(∀x,x<h.nx->g'.Z x=g.Z x)->K a' w')->(∀o∈P,amF nt g h w Q o)->wpOpIn (ow ro) m E.P ops Q i K a w) (abS:Bd h->(∀y∈W,p9 h y.2.2/\oV h mk y.2.1)/\∀o∈P,p9 h o.h/\oV h mk o.dm) (hP:∀o∈P,o∈r) (cZ:∀ops:dF,ops.toList=all->ops.toList.drop (ops.size-l.length)=l->Bd h->r≠ []) (iw:∀o∈r,o∈P\/∃y∈W,∃r',Sound E (.ops nt all l y.1 y.2.1 y.2.2) (.db r')/\o∈r') (ih:∀y∈W,∃r',Sound E (.ops nt all l y.1 y.2.1 y.2.2) (.db r')/\∀o∈r',o∈r):Sound E (.ops nt all (o::l) tm mk h) (.db r):=by
 intro ops he hd fc;let ⟨hi,hd',hidx⟩:=aaT hd;let ⟨fW,fP⟩:=abS fc;refine ⟨cZ ops he hd' fc,λo ho=> ?_,λro m g a w Q iv hE ed hr vV eV hk=> ?_⟩
 ·rcases iw o ho with hp|⟨y,hy,r',hs,uN⟩
  ·exact fP o hp
  ·let ⟨_,f1,_⟩:=hs ops he hd' (fW y hy).1.bd;exact ⟨(fW y hy).1.trans (f1 o uN).1,oV.trans (fW y hy).1.nx (fW y hy).2 (f1 o uN).2⟩
 ·rw[kr,yC,wpOpsIn_cons];refine GG ops _ he hi fc ro m g a w _ Q (iv.imp_right λiv y hy=> ?_) hE ed hr vV eV (λy hy g' a' w' q1 q2 q3 q4 q5 q6=> ?_) (λo ho=>hk o (hP o ho))
  ·let ⟨r',hs,uN⟩:=ih y hy;let ⟨NT,f1,_⟩:=hs ops he hd' (fW y hy).1.bd;let ⟨o',EJ⟩:=mL _ NT;have h1:=(fW y hy).2.1;have h2:=(f1 o' EJ).2.1;have h3:=iv o' (uN o' EJ);omega
  ·let ⟨r',hs,uN⟩:=ih y hy;let ⟨NT,f1,k1⟩:=hs ops he hd' (fW y hy).1.bd;have:=k1 ro m g' a' w' Q (iv.imp_right λiv o' EJ=>by
    let ⟨o2,ho2⟩:=mL _ NT;have h1:=(fW y hy).2.1;have h2:=(f1 o' EJ).2.1;have h3:=iv o' (uN o' EJ);omega) (hE.mono q3.le) q1 q2 q4 q5 (λo' EJ g2 a2 w2 x s0 s1 s2 s3 s4 s5 s6=>hk o' (uN o' EJ) g2 a2 w2 x s0 s1 s2 (q3.trans s3) s4 s5 (λx hx=>by
     rw[s6 x (mC hx (fW y hy).1.nx),q6 x hx]))
   rw[hidx] at this;exact this
def aaS {mk:List Dm} (mT:∀(ops:dF) (i:Nat),ops.toList=all->ops[i]? =some o->Bd h->∀ro,vj E ro nt ops i o tm.get need h.hp.get frp newp v D H') (htm:D9.get=jk tm.get o.dst v) (hh:Bd h->h1.hp.get=kO D H' h.hp.get) (hfrp:∀x,frp x->h.nx<=x) (l9:∀x,newp x->h.nx<=x/\x<h1.nx) (abS:Bd h->p9 h h1) (ih:Sound E (.ops nt all l D9 mk h1) out):Sound E (.ops nt all (o::l) tm mk h) out:=by
 cases out with
 |db r=>
  by_cases cZ:r= []
  ·intro ops he hd fc;let ⟨_,hd',_⟩:=aaT hd;exact absurd cZ (ih ops he hd' (abS fc).bd).1
  refine Gq [(D9,mk,h1)] [] (λops i he hi fc ro m g a w K Q iv hE ed hr vV eV hk _=> ?_) (λfc=>⟨λy hy=> ?_,λo ho=>by simp at ho⟩) (λo ho=>by simp at ho) (λ_ _ _ _=>cZ) (λo ho=>.inr ⟨(D9,mk,h1),by simp,r,ih,ho⟩) (λy hy=> ?_)
  ·refine mT ops i he hi fc ro m g h.hp.get tm.get a w K Q hE ed hr (λ_ _=>rfl) (λ_ _=>rfl) (λx hx=>eV x (hfrp x hx)) (λr w' g' q1 q2 q3 q4=> ?_)
   rw[<-htm] at q1;rw[<-hh fc] at q2 q3;have CK:=(abS fc).nx;exact hk (D9,mk,h1) (by simp) g' (a.put o.dst r) w' q1 q2 q3 (by rw[put_defers];exact vV.mono q3.le) (λx hx=>by
    have hx:h1.nx<=x:=hx;rw[q4 x (λhn=>by have:=l9 x hn;omega)]
    exact eV x (by omega)) (λx hx=>q4 x (λhn=>by have:=l9 x hn;omega))
  ·obtain rfl:=ez.1 hy;exact ⟨abS fc,oV.refl _ _⟩
  ·obtain rfl:=ez.1 hy;exact ⟨r,ih,λ_ h=>h⟩
 |_=>trivial
def ud (us:dQ) (new:Nat):Nat->Bool:=λx=>decide (x∈us.map (·.1)\/x=new)
def aBY {mk:List Dm} (hw:gw all o tm.get=some true) (hd:kY nt o.dst=true) (ho:qT E o.op tm.get h.hp.get h.nx=some (v,us)) (xg:∀c,o.op≠ .defer c) (ih:Sound E (.ops nt all l (iY tm o.dst v) mk (h.fin us)) out):Sound E (.ops nt all (o::l) tm mk h) out:=by
 refine aaS (need:=λx=>x∈pB o.op tm.get) (frp:=λx=>x=h.nx) (newp:=λx=>x=h.nx/\us≠ []) (v:=v) (D:=ud us h.nx) (H':=gz h.hp.get us) (λops i he hi fc ro=> ?_) (th _ _ _) (λfc=> ?_) (λx hx=>by omega) (λx hx=> ?_) (λfc=>air fc (aaY ho)) ih
 ·subst he;exact Dn hi hw hd ho (fc _ (dg _)) (λx=>by simp[ud]) xg
 ·rw[aiq];funext x;unfold kO ud;by_cases h1:x∈us.map (·.1)
  ·rw[aH (by simp only[jX];exact .inl h1)]
  ·rw[mm h1];split<;>rfl
 ·obtain ⟨rfl,cZ⟩:=hx;refine ⟨dg _,?_⟩;cases us with
  |nil=>exact absurd rfl cZ
  |cons u us=>
   show h.nx<(h.lS (u::us)).nx+1;rw[Il];omega
def atH {mk:List Dm} (hw:gw all o tm.get=some false) (hd:kY nt o.dst=true) (ih:Sound E (.ops nt all l (iY tm o.dst (.cS [])) mk h) out):Sound E (.ops nt all (o::l) tm mk h) out:=by
 refine aaS (need:=λ_=>False) (frp:=λx=>x=h.nx) (newp:=λ_=>False) (v:=.cS []) (D:=λx=>decide (x=h.nx)) (H':=h.hp.get) (λops i he hi fc ro=> ?_) (th _ _ _) (λfc=> ?_) (λx hx=>by omega) (λx hx=>hx.elim) (λfc=>p9.refl fc) ih
 ·subst he;exact step_skip hi hw hd (fc _ (dg _)) (λx=>by simp)
 ·funext x;unfold kO;split<;>rfl
def Nf {op:Op} {c:Call} (h:wN op=some c):op= .call c/\isValue c.callee=true:=by
 cases op<;>first|(cases h;done)|skip
 rename_i c';have h:aQ (isValue c'.callee) (some c') none=some c:=h;let ⟨h1,h2⟩:=aV h;cases h2;exact ⟨rfl,h1⟩
def GZ {op:Op} {r:SV×dQ} (h:qT E op T f new=some r):∀c,op≠ .defer c:=by
 intro c e;subst e;cases h
end
section
variable {E:Env} {g:Gh} {f:Hf} {w:World}
variable {nt since:Nat} {a:Act} {Q:Exit->Act->World->Prop}
def aaH {l:Nat} {o o':SO} (hb:Bd h) (hl:h.hp.get l=some o):p9 h (h.put l o'):=by
 have cY:l<h.nx:=by
  by_cases hc:h.nx<=l
  ·rw[hb l hc] at hl;simp at hl
  ·omega
 have hg:∀x,(h.put l o').hp.get x=if x=l then some o' else h.hp.get x:=λx=>Tr.pD _ _ _ _
 refine ⟨dg _,λx hx=> ?_,λx hx hn=> ?_,λx hx=>fO _ hx,λx hx hn=> ?_⟩
 ·have hx:h.nx<=x:=hx;rw[hg,aL (by omega)];exact hb x hx
 ·have hn:x∉l::h.lg:=hn;rw[hg,aL (λe=>hn (by simp[e]))]
 ·rw[hg,aL (λe=>by subst e;rw[hl] at hn;simp at hn)];exact hn
def aty (h:Hs) (l:Nat) (o:SO):(h.put l o).hp.get=jo h.hp.get (l,some o):=funext λx=>Tr.pD _ _ _ _
def aaR {mk Ey:List Dm} (hd:kY nt o.dst=true) (vV:oV h mk Ey) (GG:∀(ops:dF) (i:Nat),ops.toList=all->ops[i]? =some o->∀(ro:bP) (m:Nat) (g:Gh) (a:Act) (w:World) (K:Act->World->Prop) (Q:Exit->Act->World->Prop),(ro=none\/Ey.length=mk.length)->dW E g->FR g nt tm.get a.tmps->HR g h.hp.get w->Marks g mk a.defers->
   (∀a' u,VR g u v->a'.tmps=(a.put o.dst u).tmps->Marks g Ey a'.defers->K a' w)->wpOpIn (ow ro) m E.P ops Q i K a w) (ih:Sound E (.ops nt all l (iY tm o.dst v) Ey h) (.db r)):Sound E (.ops nt all (o::l) tm mk h) (.db r):=by
 by_cases cZ:r= []
 ·intro ops he hd fc;let ⟨_,hd',_⟩:=aaT hd;exact absurd cZ (ih ops he hd' fc).1
 refine Gq [(iY tm o.dst v,Ey,h)] [] (λops i he hi fc ro m g a w K Q iv hE ed hr hmk' eV hk _=> ?_) (λfc=>⟨λy hy=> ?_,λo ho=>by simp at ho⟩) (λo ho=>by simp at ho) (λ_ _ _ _=>cZ) (λo' ho=>.inr ⟨(iY tm o.dst v,Ey,h),by simp,r,ih,ho⟩) (λy hy=> ?_)
 ·refine GG ops i he hi ro m g a w K Q (iv.imp_right λhh=>hh (iY tm o.dst v,Ey,h) (by simp)) hE ed hr hmk' (λa' u hu ha hm=> ?_)
  refine hk (iY tm o.dst v,Ey,h) (by simp) g a' w ?_ hr (Fr.refl _ _ _) hm eV (λ_ _=>rfl)
  rw[th,ha];exact ed.put hd hu
 ·obtain rfl:=ez.1 hy;exact ⟨p9.refl fc,vV⟩
 ·obtain rfl:=ez.1 hy;exact ⟨r,ih,λ_ h=>h⟩
def agf {op:Op} {x:Operand×Bool} (h:PB op=some x):(op= .next x.1 false/\x.2=false)\/(op= .entry x.1/\x.2=true):=by
 cases op<;>first|(cases h;done)|skip
 ·rename_i it tq;have h:aQ tq none (some (it,false))=some x:=h;cases tq with
  |true=>cases h
  |false=>cases h;exact .inl ⟨rfl,rfl⟩
 ·cases h;exact .inr ⟨rfl,rfl⟩
def Dj {tm:Tf} {ops:dF} (ed:FR g nt tm a.tmps) (hw:gw ops.toList o tm=some true):Region.wanted o (yielded ops a.tmps)=true:=yj ed hw
def akE {ops:dF} {m:Nat} (hi:ops[i]? =some o) (hw:Region.wanted o (yielded ops a.tmps)=true) (h:o.uponIn (ow ro) m E.P a K Q ((o.semAt (ow ro).round a.eval).run E.P w)):wpOpIn (ow ro) m E.P ops Q i K a w:=by
 unfold wpOpIn;rw[hi];simp only;rw[aH hw];exact ⟨As E.P w,h⟩
def Ww (x:Nat):∀(l:br),Gu x l=true↔x∈l
 | []=>by simp[Gu]
 |y::l=>by
  unfold Gu;rw[bH,beq_eq];by_cases h:x=y
  ·simp[h]
  ·simp only[h,aX,aC,aA,cH,false_or];exact Ww x l
def PM {seen:br} {sa:Array Nat} (hs:sa.toList=seen):∀{ms:List MapEntry} {es:ji},iI g ms es->iI g (ms.filter λe=> !sa.contains e.born) (Gx seen es)
 |_,_,.nil=>.nil
 |_,_,.cons (m:=m) (x:=x) (ms:=ms) (xs:=xs) hd ht=>by
  have ih:=PM hs ht;have hc:sa.contains m.born=Gu x.2.2 seen:=by
   rw[ly,Ww,Array.contains_iff_mem,<-Array.mem_toList_iff,hs,hd.2.2]
  unfold Gx at ih ⊢;rw[mD,mD,hc];cases Gu x.2.2 seen with
  |true=>exact ih
  |false=>exact .cons hd ih
def iI.aCc (h:iI g ms es):ms= []↔es= []:=by cases h<;>simp
def iI.mem (h:iI g ms es):∀m∈ms,∃x∈es,ang g m x:=by
 intro m hm;induction h with
 |nil=>simp at hm
 |cons hd ht ih=>
  rcases cH.1 hm with rfl|hm
  ·exact ⟨_,by simp,hd⟩
  ·let ⟨x,hx,h⟩:=ih hm;exact ⟨x,fO _ hx,h⟩
def M5 (hs:sa.toList=seen) {ms:Array MapEntry} (h:iI g ms.toList es):iI g (leftOf ms sa).toList (Gx seen es):=by
 have:=PM hs h;unfold leftOf;rw[Array.toList_filter];exact this
def H8 {id:Nat} (h:xq y=some id):y= .ptr id 0:=by
 let ⟨q,h1,h2⟩:=aq h;let ⟨h3,h4⟩:=aV h2;cases h4;have:=(beq_iff _ _).1 h3;obtain rfl:=oe h1;rw[this]
def akS {last c:Nat} (h:iterM since seen last c es=true):(∀e∈es,e.2.2<since)/\since<=last:=by
 unfold iterM at h;rw[bF] at h;refine ⟨λe he=> ?_,(bV _ _).1 h.2⟩
 exact (bV _ _).1 (iJ.1 h.1 e he)
def atI (jH:∀j,Sound E j (rec j)) {mk:List Dm} {x:Operand} {id:Nat} (hw:gw all o tm.get=some true) (hd:kY nt o.dst=true) (eT:o.op= .next x false) (hx:cE tm.get x=some y) (hy:xq y=some id) (fE:xE rec nt all l tm mk h o.dst id= .db r):Sound E (.ops nt all (o::l) tm mk h) (.db r):=by
 obtain rfl:=H8 hy;have over:(∀(g:Gh) (w:World),HR g h.hp.get w->∀b c,g.Z id=some (b,c)->c=0/\(Instr.next (.pointer (some ⟨b,0,none⟩)) false o.type).run E.P w= .ok (.tuple #[.bool false]) w)->
   Sound E (.ops nt all l (iY tm o.dst (.cS [.bool false])) mk h) (.db r)->Sound E (.ops nt all (o::l) tm mk h) (.db r):=by
  intro ln ih;refine aaR hd (oV.refl _ _) (λops i he hi ro m g a w K Q iv hE ed hr vV hk=> ?_) ih
  subst he;have hu:=ot ed hx;generalize hue:a.eval x=u at hu;cases hu with
  | @ptr _ _ b c hρ=>
  obtain ⟨rfl,hn⟩:=ln g w hr b c hρ;refine akE hi (Dj ed hw) ?_;rw[Oper.semAt_eq _ _ _ (λc' h=>by rw[eT] at h;cases h)]
  have hex:(execOp a.eval o).run E.P w= .ok (.value (.tuple #[.bool false])) w:=by
   simp only[execOp,eT,hue,ng,Sem.run_bind,hn,Result.andThen_ok,Sem.run_pure]
  rw[hex];exact hk _ _ (.cS (.cons (.bool false) .nil)) rfl (by rw[put_defers];exact vV)
 unfold xE at fE;split at fE
 ·rename_i s q t iN;have ih:=jH (.ops nt all l (iY tm o.dst (.cS [.bool false])) mk h);rw[show rec (.ops nt all l (iY tm o.dst (.cS [.bool false])) mk h)= .db r from fE] at ih;refine over (λg w hr b c hρ=> ?_) ih
  obtain ⟨_,rfl,bm,sa,h1,h2,h3⟩:=hr.at iN hρ;have h3:bm=none:=h3;subst h3;refine ⟨rfl,?_⟩;simp[Instr.next,getObj,Sem.run,h1]
 ·rename_i m0 since seen last iN;split at fE;rotate_left
  ·cases fE
  rename_i es c0 auF;rw[bH] at fE;split at fE;rotate_left
  ·cases fE
  rename_i hit;let ⟨hold,EG⟩:=akS hit;unfold agE at fE;have model:∀(g:Gh) (w:World),HR g h.hp.get w->∀b c,g.Z id=some (b,c)->c=0/\∃(bm y:Nat) (sa:Array Nat) (ms:Array MapEntry),g.Z m0=some (bm,y)/\sa.toList=seen/\w.heap[b]? =some (.mapIter (some bm) since sa last)/\w.heap[bm]? =some (.map ms c0)/\iI g ms.toList es/\∀z∈ms.toList,z.born<since:=by
   intro g w hr b c hρ;obtain ⟨_,rfl,bm,sa,h1,h2,h3⟩:=hr.at iN hρ;obtain ⟨bm',y,rfl,h4⟩:=h3;let ⟨_,ms,m1,m2⟩:=hr.at auF h4;refine ⟨rfl,bm',y,sa,ms,h4,h2,h1,m1,m2,λz hz=> ?_⟩
   let ⟨e,he,h5⟩:=m2.mem z hz;rw[h5.2.2];exact hold e he
  cases hle:Gx seen es with
  |nil=>
   rw[hle] at fE;have ih:=jH (.ops nt all l (iY tm o.dst (.cS [.bool false])) mk h);rw[show rec (.ops nt all l (iY tm o.dst (.cS [.bool false])) mk h)= .db r from fE] at ih;refine over (λg w hr b c hρ=> ?_) ih
   obtain ⟨rfl,bm,y,sa,ms,q1,q2,q3,q4,q5,q6⟩:=model g w hr b c hρ;refine ⟨rfl,?_⟩;have uq:=M5 q2 q5;rw[hle] at uq;rcases run_next_at (P:=E.P) w o.type b bm since last sa ms c0 q3 q4 q6 EG with ⟨_,hn⟩|⟨e,he,_⟩
   ·exact hn
   ·have:(leftOf ms sa).toList= []:=uq.aCc.2 rfl;rw[this] at he;simp at he
  |cons e0 l0=>
   rw[hle] at fE;have fE:wM (λe=>ve rec nt all l tm mk o.dst (.cS [.bool true,e.1,e.2.1]) (h.put id (.mapIter (some m0) since (seen++ [e.2.2]) c0))) (e0::l0)= .db r:=fE
   rw[<-hle] at fE;let ⟨cZ,q1,q2⟩:=uf fE;have hrne:∀ops:dF,ops.toList=all->ops.toList.drop (ops.size-l.length)=l->Bd h->r≠ []:=by
    intro ops auA alm fc HT;subst HT;let ⟨r',h1,h2⟩:=q1 e0 (by rw[hle];simp)
    have hs:=jH (.ops nt all l (iY tm o.dst (.cS [.bool true,e0.1,e0.2.1])) mk (h.put id (.mapIter (some m0) since (seen++ [e0.2.2]) c0)));rw[show rec (.ops nt all l (iY tm o.dst (.cS [.bool true,e0.1,e0.2.1])) mk (h.put id (.mapIter (some m0) since (seen++ [e0.2.2]) c0)))= .db r' from h1] at hs;let ⟨NT,_⟩:=hs ops auA alm (aaH fc iN).bd;let ⟨z,hz⟩:=mL _ NT;have:=h2 z hz;simp at this
   refine Gq ((Gx seen es).map λe=>(iY tm o.dst (.cS [.bool true,e.1,e.2.1]),mk,h.put id (.mapIter (some m0) since (seen++ [e.2.2]) c0))) [] (λops i he hi fc ro m g a w K Q iv hE ed hr vV eV hk _=> ?_) (λfc=>⟨λy hy=> ?_,λo ho=>by simp at ho⟩) (λo ho=>by simp at ho) hrne (λoc ho=> ?_) (λy hy=> ?_)
   ·subst he;have hu:=ot ed hx;generalize hue:a.eval x=u at hu;cases hu with
    | @ptr _ _ b c hρ=>
    obtain ⟨rfl,bm,y,sa,ms,p1,p2,p3,p4,p5,p6⟩:=model g w hr b c hρ;have uq:=M5 p2 p5;rcases run_next_at (P:=E.P) w o.type b bm since last sa ms c0 p3 p4 p6 EG with ⟨h0,_⟩|⟨e,he,w1,hw1,hn⟩
    ·have:(leftOf ms sa).toList= []:=sn (by simpa using h0)
     rw[this,hle] at uq;cases uq
    let ⟨x0,hx0,auJ⟩:=uq.mem e he;refine akE hi (Dj ed hw) ?_;rw[Oper.semAt_eq _ _ _ (λc' h=>by rw[eT] at h;cases h)]
    have hex:(execOp a.eval o).run E.P w= .ok (.value (.tuple #[.bool true,e.key,e.val])) (ChangeMaps.setBlock w1 b (.mapIter (some bm) since (sa.push e.born) c0)):=by
     simp only[execOp,eT,hue,ng,Sem.run_bind,hn,Result.andThen_ok,Sem.run_pure]
    rw[hex];have LM:w1.heap=w.heap/\w1.os=w.os/\w1.tape=w.tape/\w1.output=w.output:=by
     rcases hw1 with rfl|rfl
     ·exact ⟨rfl,rfl,rfl,rfl⟩
     ·exact ⟨rfl,rfl,rfl,rfl⟩
    have hb:b<w.heap.size:=(hr.at iN hρ).1;let ⟨t1,t2⟩:=HR.write hr (o':=.mapIter (some m0) since (seen++ [x0.2.2]) c0) (w':=ChangeMaps.setBlock w1 b (.mapIter (some bm) since (sa.push e.born) c0)) iN hρ (by simp[ChangeMaps.setBlock,LM.1]) (λk hk=>by simp[ChangeMaps.setBlock,LM.1,Array.getElem?_setIfInBounds_ne (DQ hk)])
     ⟨rfl,some bm,sa.push e.born,by simp[ChangeMaps.setBlock,LM.1,hb],by rw[Array.toList_push,p2,auJ.2.2],bm,y,rfl,p1⟩ LM.2.1 LM.2.2.1 LM.2.2.2
    rw[<-aty] at t1 t2;refine hk (iY tm o.dst (.cS [.bool true,x0.1,x0.2.1]),mk,h.put id (.mapIter (some m0) since (seen++ [x0.2.2]) c0)) (cO.2 ⟨x0,hx0,rfl⟩) g (a.put o.dst (.tuple #[.bool true,e.key,e.val])) _ ?_ t1 t2 (by rw[put_defers];exact vV) eV (λ_ _=>rfl)
    rw[th];exact ed.put hd (.cS (.cons (.bool true) (.cons auJ.1 (.cons auJ.2.1 .nil))))
   ·obtain ⟨e,he,rfl⟩:=cO.1 hy;exact ⟨aaH fc iN,oV.refl _ _⟩
   ·let ⟨e,he,r',h1,h2⟩:=q2 oc ho;refine .inr ⟨(iY tm o.dst (.cS [.bool true,e.1,e.2.1]),mk,h.put id (.mapIter (some m0) since (seen++ [e.2.2]) c0)),cO.2 ⟨e,he,rfl⟩,r',?_,h2⟩;have ih:=jH (.ops nt all l (iY tm o.dst (.cS [.bool true,e.1,e.2.1])) mk (h.put id (.mapIter (some m0) since (seen++ [e.2.2]) c0)));rw[show rec (.ops nt all l (iY tm o.dst (.cS [.bool true,e.1,e.2.1])) mk (h.put id (.mapIter (some m0) since (seen++ [e.2.2]) c0)))= .db r' from h1] at ih;exact ih
   ·obtain ⟨e,he,rfl⟩:=cO.1 hy;let ⟨r',h1,h2⟩:=q1 e he;refine ⟨r',?_,h2⟩;have ih:=jH (.ops nt all l (iY tm o.dst (.cS [.bool true,e.1,e.2.1])) mk (h.put id (.mapIter (some m0) since (seen++ [e.2.2]) c0)));rw[show rec (.ops nt all l (iY tm o.dst (.cS [.bool true,e.1,e.2.1])) mk (h.put id (.mapIter (some m0) since (seen++ [e.2.2]) c0)))= .db r' from h1] at ih;exact ih
 ·cases fE
def Qb {b:Nat}:∀{ms:List MapEntry} {es:ji},iI g ms es->∀{v:SV},XG b es=some v->∃e,ms.find? (·.born==b)=some e/\VR g (.tuple #[e.key,e.val]) v
 |_,_,.nil,v,h=>by cases h
 |_,_,.cons (m:=m) (x:=x) (ms:=ms) (xs:=es) hd ht,v,h=>by
  unfold XG at h;rw[bH] at h;split at h
  ·rename_i hb;have hb:=(beq_iff _ _).1 hb;cases h;refine ⟨m,by simp[hd.2.2,hb],.cS (.cons hd.1 (.cons hd.2.1 .nil))⟩
  ·rename_i hb;have hb:¬x.2.2=b:=λe=>hb ((beq_iff _ _).2 e)
   let ⟨e,h1,h2⟩:=Qb ht h;refine ⟨e,?_,h2⟩;rw[List.find?_cons];have:(m.born==b)=false:=by rw[hd.2.2];simpa using hb
   rw[this];exact h1
def PO:∀{l:br} {b:Nat},akP l=some b->l.getLast? =some b
 | [],b,h=>by cases h
 | [a],b,h=>by cases h;rfl
 |a::c::l,b,h=>by
  have:=PO (l:=c::l) h;rw[List.getLast?_cons_cons];exact this
def apG {mk:List Dm} {x:Operand} {id:Nat} (hw:gw all o tm.get=some true) (hd:kY nt o.dst=true) (eT:o.op= .entry x) (hx:cE tm.get x=some y) (hy:xq y=some id) (hv:EV h.hp.get id=some v) (ih:Sound E (.ops nt all l (iY tm o.dst v) mk h) (.db r)):Sound E (.ops nt all (o::l) tm mk h) (.db r):=by
 obtain rfl:=H8 hy;refine aaR hd (oV.refl _ _) (λops i he hi ro m g a w K Q iv hE ed hr vV hk=> ?_) ih
 subst he;have hu:=ot ed hx;generalize hue:a.eval x=u at hu;cases hu with
 | @ptr _ _ b c hρ=>
 unfold EV at hv;split at hv;rotate_left
 ·cases hv
 rename_i m0 since seen last iN;split at hv;rotate_left
 ·cases hv
 rename_i es c0 auF;let ⟨hc,qZ⟩:=aV hv;have hc:=(beq_iff _ _).1 hc;subst hc;let ⟨bo,h1,h2⟩:=aq qZ;obtain ⟨_,rfl,bm,sa,q1,q2,q3⟩:=hr.at iN hρ;obtain ⟨bm',y',rfl,q4⟩:=q3;let ⟨_,ms,m1,m2⟩:=hr.at auF q4;let ⟨e,e1,e2⟩:=Qb m2 h2;have aS:sa.back? =some bo:=by rw[<-Array.getLast?_toList,q2];exact PO h1
 refine akE hi (Dj ed hw) ?_;rw[Oper.semAt_eq _ _ _ (λc' h=>by rw[eT] at h;cases h)]
 have hf:ms.find? (·.born==bo)=some e:=by rw[<-Array.find?_toList];exact e1
 have hn:(Instr.entry (.pointer (some ⟨b,0,none⟩))).run E.P w= .ok (.tuple #[e.key,e.val]) w:=by
  simp only[Instr.entry,getObj,Sem.run_bind,Sem.run,q1,m1,Result.andThen,aS,jg,aC,aA,hf];rfl
 have hex:(execOp a.eval o).run E.P w= .ok (.value (.tuple #[e.key,e.val])) w:=by
  simp only[execOp,eT,hue,ng,Sem.run_bind,hn,Result.andThen_ok,Sem.run_pure]
 rw[hex];exact hk _ _ e2 rfl (by rw[put_defers];exact vV)
def atJ (jH:∀j,Sound E j (rec j)) {c:Call} {mk:List Dm} (hw:gw all o tm.get=some true) (hd:kY nt o.dst=true) (eT:o.op= .call c) (hc:sG tm.get c.callee=some fv) (has:fT tm.get c.args.toList=some aa) (hs:Sound E (.call fv aa h) (.iA rs)) (fE:wM (λx:Rs=>aQ x.fR (.db [⟨.fR x.v,tm,mk,x.h⟩]) (ve rec nt all l tm mk o.dst x.v x.h)) rs= .db r):Sound E (.ops nt all (o::l) tm mk h) (.db r):=by
 have hs:Bd h->rs≠ []/\(∀r∈rs,p9 h r.h)/\yh E fv aa h.hp.get h.nx rs:=hs;let ⟨cZ,q1,q2⟩:=uf fE;have way:∀x∈rs,(x.fR=true/\(⟨.fR x.v,tm,mk,x.h⟩:Oc)∈r)\/(x.fR=false/\∃r',Sound E (.ops nt all l (iY tm o.dst x.v) mk x.h) (.db r')/\∀z∈r',z∈r):=by
  intro x hx;let ⟨r',h1,h2⟩:=q1 x hx;cases hp:x.fR with
  |true=>
   rw[hp] at h1;cases (show Out.db [⟨.fR x.v,tm,mk,x.h⟩]= .db r' from h1);exact .inl ⟨rfl,h2 _ (by simp)⟩
  |false=>
   rw[hp] at h1;have ih:=jH (.ops nt all l (iY tm o.dst x.v) mk x.h);rw[show rec (.ops nt all l (iY tm o.dst x.v) mk x.h)= .db r' from h1] at ih;exact .inr ⟨rfl,r',ih,h2⟩
 refine Gq ((rs.filter λx=> !x.fR).map λx=>(iY tm o.dst x.v,mk,x.h)) ((rs.filter λx=>x.fR).map λx=>⟨.fR x.v,tm,mk,x.h⟩) (λops i he hi fc ro m g a w K Q iv hE ed hr vV eV hk hP=> ?_) (λfc=>⟨λy hy=> ?_,λo ho=> ?_⟩) (λo ho=> ?_) (λops auA alm fc HT=> ?_) (λoc ho=> ?_) (λy hy=> ?_)
 ·subst he;refine ahV (g:=g) (H:=h.hp.get) (nx:=h.nx) hi hw eT hc has ed (λ_ _=>rfl) (λu us hu jL=>(hs fc).2.2 (m-1) g w u us hE hr eV hu jL) ?_
  rintro e w' ⟨x,hx,u,g',rfl,h1,h2,h3,h4,h5⟩;refine ⟨x.fR,u,rfl,λhp=> ?_,λhp=> ?_⟩
  ·refine hk (iY tm o.dst x.v,mk,x.h) (cO.2 ⟨x,lr.2 ⟨hx,by simp[hp]⟩,rfl⟩) g' _ w' ?_ h2 h3 (by rw[put_defers];exact vV.mono h3.le) h5 h4
   rw[th];exact (ed.mono h3.le).put hd h1
  ·exact hP ⟨.fR x.v,tm,mk,x.h⟩ (cO.2 ⟨x,lr.2 ⟨hx,hp⟩,rfl⟩) g' a w' _ (.fR h1) (ed.mono h3.le) h2 h3 (vV.mono h3.le) h5 h4
 ·obtain ⟨x,hx,rfl⟩:=cO.1 hy;exact ⟨(hs fc).2.1 x (lr.1 hx).1,oV.refl _ _⟩
 ·obtain ⟨x,hx,rfl⟩:=cO.1 ho;exact ⟨(hs fc).2.1 x (lr.1 hx).1,oV.refl _ _⟩
 ·obtain ⟨x,hx,rfl⟩:=cO.1 ho;let ⟨Jc,cX⟩:=lr.1 hx;rcases way x Jc with ⟨_,h1⟩|⟨h1,_⟩
  ·exact h1
  ·rw[h1] at cX;simp at cX
 ·subst HT;let ⟨x,hx⟩:=mL _ cZ;rcases way x hx with ⟨_,h1⟩|⟨_,r',h1,h2⟩
  ·simp at h1
  ·let ⟨NT,_⟩:=h1 ops auA alm ((hs fc).2.1 x hx).bd;let ⟨z,hz⟩:=mL _ NT;have:=h2 z hz;simp at this
 ·let ⟨x,hx,r',h1,h2⟩:=q2 oc ho;cases hp:x.fR with
  |true=>
   rw[hp] at h1;cases (show Out.db [⟨.fR x.v,tm,mk,x.h⟩]= .db r' from h1);obtain rfl:=ez.1 h2;exact .inl (cO.2 ⟨x,lr.2 ⟨hx,hp⟩,rfl⟩)
  |false=>
   rw[hp] at h1;have ih:=jH (.ops nt all l (iY tm o.dst x.v) mk x.h);rw[show rec (.ops nt all l (iY tm o.dst x.v) mk x.h)= .db r' from h1] at ih;exact .inr ⟨(iY tm o.dst x.v,mk,x.h),cO.2 ⟨x,lr.2 ⟨hx,by simp[hp]⟩,rfl⟩,r',ih,h2⟩
 ·obtain ⟨x,hx,rfl⟩:=cO.1 hy;let ⟨Jc,cX⟩:=lr.1 hx;rcases way x Jc with ⟨h1,_⟩|⟨_,h1⟩
  ·rw[h1] at cX;simp at cX
  ·exact h1
def arl {k:SV->Hs->Out} (hg:goK rec h fo ao k kp= .db r):∃fv aa rs,fo=some fv/\ao=some aa/\rec (.call fv aa h)= .iA rs/\wM (λx:Rs=>aQ x.fR (kp x.v x.h) (k x.v x.h)) rs= .db r:=by
 cases fo with
 |none=>cases hg
 |some fv=>
  cases ao with
  |none=>cases hg
  |some aa=>
   let ⟨rs,h1,h2⟩:=ako (show aay (rec (.call fv aa h)) k kp= .db r from hg);exact ⟨fv,aa,rs,rfl,rfl,h1,h2⟩
def S7 (jH:∀j,Sound E j (rec j)) (nt:Nat) (all l:dd) (tm:de) (mk:List Dm) (h:Hs):Sound E (.ops nt all l tm mk h) (agD E rec nt all l tm mk h):=by
 cases l with
 |nil=>
  intro ops he hd fc;refine ⟨by simp,λo ho=> ?_,λro m g a w Q iv hE ed hr vV eV hk=> ?_⟩
  ·obtain rfl:=ez.1 ho;exact ⟨p9.refl fc,oV.refl _ _⟩
  ·simp only[AE,List.range'_zero];exact hk ⟨.normal,tm,mk,h⟩ (by simp) g a w _ .normal ed hr (Fr.refl _ _ _) vV eV (λ_ _=>rfl)
 |cons o l=>
  show Sound E _ (aQ (kY nt o.dst) (ajB E rec nt all l tm mk h o (gw all o tm.get)) (.fail ""));rw[bH];split;rotate_left
  ·trivial
  rename_i hd;unfold ajB;cases hw:gw all o tm.get with
  |none=>trivial
  |some wb=>
   show Sound E _ (aQ wb (doK E rec nt all l tm mk h o (wN o.op)) (ve rec nt all l tm mk o.dst (.cS []) h));cases wb with
   |false=>exact atH hw hd (jH _)
   |true=>
    show Sound E _ (doK E rec nt all l tm mk h o (wN o.op));unfold doK;cases hc:wN o.op with
    |some c=>
     let ⟨eT,_⟩:=Nf hc;show Sound E _ (goK rec h (sG tm.get c.callee) (fT tm.get c.args.toList) (ve rec nt all l tm mk o.dst) λv h=>.code (.fR v) tm mk h)
     cases hg:goK rec h (sG tm.get c.callee) (fT tm.get c.args.toList) (ve rec nt all l tm mk o.dst) λv h=>.code (.fR v) tm mk h with
     |db r=>
      let ⟨fv,aa,rs,h1,h2,h3,h4⟩:=arl hg;have hs:=jH (.call fv aa h);rw[h3] at hs;exact atJ jH hw hd eT h1 h2 hs h4
     |_=>trivial
    |none=>
     show Sound E _ (akn E rec nt all l tm mk h o (PB o.op));unfold akn;cases eV:PB o.op with
     |some x=>
      show Sound E _ (akT rec nt all l tm mk h o.dst x.2 (cE tm.get x.1));unfold akT;cases hb:az (cE tm.get x.1) xq with
      |none=>trivial
      |some id=>
       let ⟨y,h1,h2⟩:=aq hb;show Sound E _ (aQ x.2 (Qg rec nt all l tm mk h o.dst (EV h.hp.get id)) (xE rec nt all l tm mk h o.dst id));rcases agf eV with ⟨eT,cX⟩|⟨eT,cX⟩
       ·rw[cX];show Sound E _ (xE rec nt all l tm mk h o.dst id);cases hr:xE rec nt all l tm mk h o.dst id with
        |db r=>exact atI jH hw hd eT h1 h2 hr
        |_=>trivial
       ·rw[cX];show Sound E _ (Qg rec nt all l tm mk h o.dst (EV h.hp.get id));unfold Qg;cases hv:EV h.hp.get id with
        |none=>trivial
        |some v=>
         show Sound E _ (rec (.ops nt all l (iY tm o.dst v) mk h));have ih:=jH (.ops nt all l (iY tm o.dst v) mk h);cases hr:rec (.ops nt all l (iY tm o.dst v) mk h) with
         |db r=>rw[hr] at ih;exact apG hw hd eT h1 h2 hv ih
         |_=>trivial
     |none=>
      show Sound E _ (asS rec nt all l tm mk h o (qT E o.op tm.get h.hp.get h.nx));unfold asS;cases ho:qT E o.op tm.get h.hp.get h.nx with
      |none=>trivial
      |some r=>exact aBY hw hd ho (GZ ho) (jH _)
end
section
variable {E:Env} {g:Gh} {f:Hf} {w:World}
variable {nt W base:Nat} {T:Tf} {H2:Hf} {D:Nat->Bool} {c:Call} {h2:Hs} {Q:Out->Prop}
def vj.aFx {all:dF} (h:vj E ro nt all i o T need H frp newp v D H') (he:∀x,need x->H x=H2 x):
  vj E ro nt all i o T need H2 frp newp v D H':=
 λm g f T1 a w K Q hE ed hr hT hn hf hk=>h m g f T1 a w K Q hE ed hr hT (λx hx=>(hn x hx).trans (he x hx).symm) hf hk
def drop_cons {ops:dF} (h:ops.toList.drop i=o::l):ops[i]? =some o/\ops.toList.drop (i+1)=l/\i<ops.size:=by
 have hi:i<ops.toList.length:=by
  by_cases hl:i<ops.toList.length
  ·exact hl
  ·rw[pr (by omega)] at h;simp at h
 rw[qJ hi] at h;let ⟨h1,h2⟩:=OD h;have:ops.toList[i]? =some o:=by rw[dI hi,h1]
 exact ⟨by simpa using this,h2,by simpa using hi⟩
def NH {new x:Nat}:∀{us:dQ},x∈zf new us↔(x∈us.map (·.1)/\x≠new)
 | []=>by simp[zf]
 |u::us=>by
  unfold zf;rw[bH,beq_eq];by_cases h:u.1=new
  ·simp only[h,aU,aB,jc,cH];rw[NH (us:=us)];constructor
   ·rintro ⟨h1,h2⟩;exact ⟨.inr h1,h2⟩
   ·rintro ⟨h1|h1,h2⟩
    ·exact absurd h1 h2
    ·exact ⟨h1,h2⟩
  ·simp only[h,aX,aC,aA,jc,cH];rw[NH (us:=us)];constructor
   ·rintro (h1|⟨h1,h2⟩)
    ·subst h1;exact ⟨.inl rfl,h⟩
    ·exact ⟨.inr h1,h2⟩
   ·rintro ⟨h1|h1,h2⟩
    ·exact .inl h1
    ·exact .inr ⟨h1,h2⟩
def ov {n x:Nat}:∀{l acc:br},x∈below n l acc↔(x∈l/\x<n)\/x∈acc
 | [],acc=>by simp[below]
 |y::l,acc=>by
  unfold below;rw[bH,ble_eq];by_cases h:y+1<=n
  ·simp only[h,aU,aB];rw[ov (l:=l)];simp only[cH];constructor
   ·rintro (⟨h1,h2⟩|h1|h1)
    ·exact .inl ⟨.inr h1,h2⟩
    ·subst h1;exact .inl ⟨.inl rfl,h⟩
    ·exact .inr h1
   ·rintro (⟨h1|h1,h2⟩|h1)
    ·exact .inr (.inl h1)
    ·exact .inl ⟨h1,h2⟩
    ·exact .inr (.inr h1)
  ·simp only[show Nat.succ y<=n↔y+1<=n from Iff.rfl,h,aX,aC,aA];rw[ov (l:=l)];simp only[cH];constructor
   ·rintro (⟨h1,h2⟩|h1)
    ·exact .inl ⟨.inr h1,h2⟩
    ·exact .inr h1
   ·rintro (⟨h1|h1,h2⟩|h1)
    ·subst h1;omega
    ·exact .inl ⟨h1,h2⟩
    ·exact .inr h1
def Hid (m:Nat) (prev:List Rc) (x:Nat):Prop:=∃p∈prev,rO m p.i=false/\p.lo=x
def nO {m:Nat}:∀(prev:List Rc) (hp:Hp) (x:Nat),(Hid m prev x->(wC m prev hp).get x=none)/\(¬Hid m prev x->(wC m prev hp).get x=hp.get x)
 | [],hp,x=>⟨λ⟨p,hp,_⟩=>by simp at hp,λ_=>rfl⟩
 |q::ps,hp,x=>by
  unfold wC;rw[bH];cases hb:rO m q.i with
  |true=>
   rw[aH rfl];obtain ⟨h1,h2⟩:=nO ps hp x;have:Hid m (q::ps) x↔Hid m ps x:=by
    constructor
    ·rintro ⟨p,h,h3,h4⟩;rcases cH.1 h with rfl|h
     ·rw[hb] at h3;simp at h3
     ·exact ⟨p,h,h3,h4⟩
    ·rintro ⟨p,h,h3,h4⟩;exact ⟨p,by simp[h],h3,h4⟩
   exact ⟨λh=>h1 (this.1 h),λh=>h2 (λh'=>h (this.2 h'))⟩
  |false=>
   rw[aL (by simp)]
   obtain ⟨h1,h2⟩:=nO ps (hp.set q.lo none) x;refine ⟨λ⟨p,h,h3,h4⟩=> ?_,λh=> ?_⟩
   ·by_cases hh:Hid m ps x
    ·exact h1 hh
    ·rw[h2 hh,Tr.pD];rcases cH.1 h with rfl|h
     ·rw[aH h4.symm]
     ·exact absurd ⟨p,h,h3,h4⟩ hh
   ·rw[h2 (λ⟨p,h',h3,h4⟩=>h ⟨p,by simp[h'],h3,h4⟩),Tr.pD,aL (λe=>h ⟨q,by simp,hb,e.symm⟩)]
def zY {m:Nat} {old:Hp}:∀(prev:List Rc) (hp:Hp) (x:Nat),(Hid m prev x->(pH m old prev hp).get x=old.get x)/\(¬Hid m prev x->(pH m old prev hp).get x=hp.get x)
 | [],hp,x=>⟨λ⟨p,hp,_⟩=>by simp at hp,λ_=>rfl⟩
 |q::ps,hp,x=>by
  unfold pH;rw[bH];cases hb:rO m q.i with
  |true=>
   rw[aH rfl];obtain ⟨h1,h2⟩:=zY (old:=old) ps hp x;have:Hid m (q::ps) x↔Hid m ps x:=by
    constructor
    ·rintro ⟨p,h,h3,h4⟩;rcases cH.1 h with rfl|h
     ·rw[hb] at h3;simp at h3
     ·exact ⟨p,h,h3,h4⟩
    ·rintro ⟨p,h,h3,h4⟩;exact ⟨p,by simp[h],h3,h4⟩
   exact ⟨λh=>h1 (this.1 h),λh=>h2 (λh'=>h (this.2 h'))⟩
  |false=>
   rw[aL (by simp)]
   obtain ⟨h1,h2⟩:=zY (old:=old) ps (hp.set q.lo (old.get q.lo)) x;refine ⟨λ⟨p,h,h3,h4⟩=> ?_,λh=> ?_⟩
   ·by_cases hh:Hid m ps x
    ·exact h1 hh
    ·rw[h2 hh,Tr.pD];rcases cH.1 h with rfl|h
     ·rw[aH h4.symm,h4]
     ·exact absurd ⟨p,h,h3,h4⟩ hh
   ·rw[h2 (λ⟨p,h',h3,h4⟩=>h ⟨p,by simp[h'],h3,h4⟩),Tr.pD,aL (λe=>h ⟨q,by simp,hb,e.symm⟩)]
def JI {r:Rc} (m:Nat) (hc:∀(ops:dF),ops.toList=all->W=ops.size->ops[i]? =some o->i<W->base+W<=h.nx->Bd h->(∀x,h.hp.get x≠none->¬(base+i<=x/\x<base+W))->(∀x,rO m x=true->x∈mq ops (i+1) i)->(∀p∈prev,p.call=false->p.hi=p.lo+1/\p.lo<base+W)->
   ∀ps:List St,ps.map (·.rc)=prev->∃s:St,s.rc=r/\Cnd E nt W ops base i ps o tm.get h.hp.get h.nx s h1.nx/\D9.get=jk tm.get s.u.dst s.u.v/\h1.hp.get=kO s.u.D s.u.H h.hp.get/\
    (∀x∈h.lg,x∈h1.lg)/\(∀x,x<h.nx->¬(base+i<=x/\x<base+W)->x∉h1.lg->h1.hp.get x=h.hp.get x)/\(∀x,x<h.nx->¬(base+i<=x/\x<base+W)->h.hp.get x=none->h1.hp.get x=none)/\Bd h1/\
    (∀x,h1.hp.get x≠none->¬(base+(i+1)<=x/\x<base+W))/\(r.call=false->r.hi=r.lo+1/\r.lo<base+W)) (hm:m=Nat.mod (nW W M (mc o)) (Nat.pow 2 W)) (ih:Sound E (.draw nt W all base (i+1) (Nat.lor M (Nat.shiftLeft m (Nat.mul i W))) (r::prev) l D9 h1) out):Sound E (.draw nt W all base i M prev (o::l) tm h) out:=by
 cases out with
 |st w6 h'=>
  intro ops he hW hd hb fc fE hinv hpr ps HU;let ⟨hi,hd',cY⟩:=drop_cons hd;let ⟨m1,m2⟩:=Wx hi hinv;let ⟨s,hr,abT,htm,hh,f1,f2,f3,f4,f5,f6⟩:=hc ops he hW hi (by omega) hb fc fE (λx hx=>(m1 x (by rw[<-hm];exact (acG _ _).1 hx)).2) hpr ps HU
  let ⟨k1,out,k2⟩:=ih ops he hW hd' (jj hb abT.Vf) f4 f5 (by rw[hm];exact m2) (λp hp=>by
   rcases cH.1 hp with rfl|hp
   ·exact f6
   ·exact hpr p hp) (s::ps) (by simp[hr,HU])
  refine ⟨⟨jj abT.Vf k1.nx,k1.bd,λx hx hn hl=> ?_,λx hx=>k1.sub x (f1 x hx),λx hx hn hl=> ?_⟩,out,?_⟩
  ·have Jc:x<h1.nx:=mC hx abT.Vf;rw[k1.lg x Jc (λhc=>hn ⟨by omega,hc.2⟩) hl]
   exact f2 x hx hn (λhc=>hl (k1.sub x hc))
  ·have Jc:x<h1.nx:=mC hx abT.Vf;exact k1.dead x Jc (λhc=>hn ⟨by omega,hc.2⟩) (f3 x hx hn hl)
  ·rw[htm,hh] at k2;exact .cons abT k2
 |_=>trivial
def abA {m:Nat} {r:Rc} (h:qj m r prev=true) {ps:List St} (HU:ps.map (·.rc)=prev):∀p∈ps,rO m p.rc.i=true\/QH p.rc r:=by
 intro p hp;have xZ:p.rc∈prev:=by rw[<-HU];exact cO.2 ⟨p,hp,rfl⟩
 rcases vf h p.rc xZ with h1|h1
 ·exact .inl h1
 ·exact .inr (M9 h1)
def avu (m:Nat) (hm:m=Nat.mod (nW W M (mc o)) (Nat.pow 2 W)) (cY:C7 i (mc o)=true) (hw:gw all o tm.get=some true) (hd:kY nt o.dst=true) (ho:qT E o.op tm.get h.hp.get (base+i)=some (v,us)) (xg:∀c,o.op≠ .defer c) (Vs:qj m ⟨i,false,pB o.op tm.get,zf (base+i) us,base+i,base+i+1⟩ prev=true) (ih:Sound E (.draw nt W all base (i+1) (Nat.lor M (Nat.shiftLeft m (Nat.mul i W))) (⟨i,false,pB o.op tm.get,zf (base+i) us,base+i,base+i+1⟩::prev) l (iY tm o.dst v) (h.lS us)) out):
  Sound E (.draw nt W all base i M prev (o::l) tm h) out:=by
 refine JI m (λops he hW hi hiW hb fc fE abV hpr ps HU=> ?_) hm ih
 have eV:(h.lS us).nx=h.nx:=Il _ _;have hg:(h.lS us).hp.get=gz h.hp.get us:=KH _ _;let ⟨l1,l2⟩:=YX us h;have hk:=aaY ho;have ali:h.hp.get (base+i)=none:=by
  cases hx:h.hp.get (base+i) with
  |none=>rfl
  |some o'=>exact absurd ⟨dg _,by omega⟩ (fE (base+i) (by rw[hx];simp))
 have I8:∀x,x∈us.map (·.1)->x=base+i\/(h.hp.get x≠none/\x<h.nx):=by
  intro x hx;obtain ⟨u,hu,rfl⟩:=cO.1 hx;rcases hk u hu with h1|h1
  ·exact .inl h1
  ·refine .inr ⟨h1,?_⟩;by_cases hl:h.nx<=u.1
   ·exact absurd (fc _ hl) h1
   ·omega
 have hlow:base+i<h.nx:=by omega
 refine ⟨⟨⟨o.dst,v,ud us (base+i),gz h.hp.get us⟩,⟨i,false,pB o.op tm.get,zf (base+i) us,base+i,base+i+1⟩,m,λx=>x∈pB o.op tm.get,λx=>x=base+i,λx=>x=base+i/\us≠ []⟩,rfl,?_,th _ _ _,?_,l1,λx hx hn hl=> ?_,λx hx hn hl=> ?_,λx hx=> ?_,λx hx=> ?_,λ_=>⟨rfl,by show base+i<base+W;omega⟩⟩
 ·refine ⟨rfl,λro=> ?_,C6 cY,abV,rfl,abA Vs HU,λx=> ?_,λ_=>⟨rfl,rfl,by rw[eV],λx hx=>hx,λx hx=>hx,λx hx=>hx.1⟩,(λhc=>by cases hc),by rw[eV];exact dg _,fE,hb⟩
  ·subst he;exact Dn hi hw hd ho ali (λx=>by simp[ud]) xg
  ·show ud us (base+i) x=true↔(x∈zf (base+i) us\/(base+i<=x/\x<base+i+1));rw[NH];simp only[ud,jX];constructor
   ·rintro (h1|h1)
    ·by_cases e:x=base+i
     ·exact .inr ⟨by omega,by omega⟩
     ·exact .inl ⟨h1,e⟩
    ·exact .inr ⟨by omega,by omega⟩
   ·rintro (⟨h1,_⟩|⟨h1,h2⟩)
    ·exact .inl h1
    ·exact .inr (by omega)
 ·rw[hg];funext x;show gz h.hp.get us x=kO (ud us (base+i)) (gz h.hp.get us) h.hp.get x;unfold kO ud;by_cases h1:x∈us.map (·.1)
  ·rw[aH (by simp only[jX];exact .inl h1)]
  ·rw[mm h1];split<;>rfl
 ·rw[hg,mm (λhc=>by obtain ⟨u,hu,rfl⟩:=cO.1 hc;exact hl (l2 u hu))]
 ·rw[hg,mm (λhc=>by
   rcases I8 x hc with h1|h1
   ·exact hn ⟨by omega,by omega⟩
   ·exact h1.1 hl)]
  exact hl
 ·rw[eV] at hx;rw[hg,mm (λhc=>by rcases I8 x hc with h1|h1<;>omega)]
  exact fc x hx
 ·intro BE;by_cases hc:x∈us.map (·.1)
  ·rcases I8 x hc with h1|h1
   ·omega
   ·exact fE x h1.1 ⟨by omega,BE.2⟩
  ·rw[hg,mm hc] at hx;exact fE x hx ⟨by omega,BE.2⟩
def ary (m:Nat) (hm:m=Nat.mod (nW W M (mc o)) (Nat.pow 2 W)) (cY:C7 i (mc o)=true) (hw:gw all o tm.get=some false) (hd:kY nt o.dst=true) (Vs:qj m ⟨i,false,[],[],base+i,base+i+1⟩ prev=true) (ih:Sound E (.draw nt W all base (i+1) (Nat.lor M (Nat.shiftLeft m (Nat.mul i W))) (⟨i,false,[],[],base+i,base+i+1⟩::prev) l (iY tm o.dst (.cS [])) h) out):
  Sound E (.draw nt W all base i M prev (o::l) tm h) out:=by
 refine JI m (λops he hW hi hiW hb fc fE abV hpr ps HU=> ?_) hm ih
 have ali:h.hp.get (base+i)=none:=by
  cases hx:h.hp.get (base+i) with
  |none=>rfl
  |some o'=>exact absurd ⟨dg _,by omega⟩ (fE (base+i) (by rw[hx];simp))
 refine ⟨⟨⟨o.dst,.cS [],λx=>decide (x=base+i),h.hp.get⟩,⟨i,false,[],[],base+i,base+i+1⟩,m,λ_=>False,λx=>x=base+i,λ_=>False⟩,rfl,?_,th _ _ _,?_,λx hx=>hx,λx _ _ _=>rfl,λx _ _ hl=>hl,fc,λx hx BE=>fE x hx ⟨by omega,BE.2⟩,λ_=>⟨rfl,by show base+i<base+W;omega⟩⟩
 ·refine ⟨rfl,λro=> ?_,C6 cY,abV,rfl,abA Vs HU,λx=> ?_,λ_=>⟨rfl,rfl,rfl,λx hx=>hx.elim,λx hx=>hx,λx hx=>hx.elim⟩,(λhc=>by cases hc),dg _,fE,hb⟩
  ·subst he;exact step_skip hi hw hd ali (λx=>by simp)
  ·show decide (x=base+i)=true↔(x∈([]:br)\/(base+i<=x/\x<base+i+1));simp;omega
 ·funext x;unfold kO;split<;>rfl
def arz (m:Nat) (hm:m=Nat.mod (nW W M (mc o)) (Nat.pow 2 W)) (cY:C7 i (mc o)=true) (hw:gw all o tm.get=some true) (hd:kY nt o.dst=true) (eT:o.op= .call c) (hc:sG tm.get c.callee=some fv) (has:fT tm.get c.args.toList=some aa) (hs:Sound E (.call fv aa ⟨wC m prev h.hp,h.nx,[]⟩) (.res v h2)) (Vs:qj m ⟨i,true,[],below h.nx h2.lg [],h.nx,h2.nx⟩ prev=true) (ih:Sound E (.draw nt W all base (i+1) (Nat.lor M (Nat.shiftLeft m (Nat.mul i W))) (⟨i,true,[],below h.nx h2.lg [],h.nx,h2.nx⟩::prev) l (iY tm o.dst v) ⟨pH m h.hp prev h2.hp,h2.nx,below h.nx h2.lg h.lg⟩) out):
  Sound E (.draw nt W all base i M prev (o::l) tm h) out:=by
 refine JI m (λops he hW hi hiW hb fc fE abV hpr ps HU=> ?_) hm ih
 have hbm:Bd ⟨wC m prev h.hp,h.nx,[]⟩:=by
  intro x hx;show (wC m prev h.hp).get x=none;by_cases hh:Hid m prev x
  ·exact (nO prev h.hp x).1 hh
  ·rw[(nO prev h.hp x).2 hh];exact fc x hx
 let ⟨_,fac,IG⟩:=(show Bd ⟨wC m prev h.hp,h.nx,[]⟩->_ from hs) hbm;have fac:p9 ⟨wC m prev h.hp,h.nx,[]⟩ h2:=fac ⟨false,v,h2⟩ (by simp)
 have IG:=yh.one IG;have fnx:h.nx<=h2.nx:=fac.nx;have hHid:∀x,Hid m prev x->x<base+W/\x∉h2.lg:=by
  rintro x ⟨p,hp,Jt,rfl⟩;rcases vf Vs p hp with h1|h1
  ·rw[Jt] at h1;simp at h1
  ·have hI:=M9 h1;let ⟨c1,c2⟩:=hI.c2 rfl;let ⟨e1,e2⟩:=hpr p hp c1;refine ⟨e2,λhl=> ?_⟩
   have:=hI.a2 p.lo (ov.2 (.inl ⟨hl,by omega⟩))
   omega
 have P3:∀x,(pH m h.hp prev h2.hp).get x=if x∈h2.lg/\x<h.nx\/h.nx<=x/\x<h2.nx then h2.hp.get x else h.hp.get x:=by
  intro x;by_cases hh:Hid m prev x
  ·let ⟨q1,q2⟩:=hHid x hh;rw[(zY prev h2.hp x).1 hh,aL (by rintro (⟨h1,_⟩|⟨h1,_⟩);exact q2 h1;omega)]
  ·rw[(zY prev h2.hp x).2 hh];split
   ·rfl
   ·rename_i hn;by_cases hx:x<h.nx
    ·have:=fac.lg x hx (λhl=>hn (.inl ⟨hl,hx⟩))
     rw[this];exact (nO prev h.hp x).2 hh
    ·rw[fac.bd x (by
      by_cases cX:x<h2.nx
      ·exact absurd (.inr ⟨by omega,cX⟩) hn
      ·show h2.nx<=x;omega),fc x (by omega)]
 have ayb:∀x,x<h.nx->h.hp.get x=none->h2.hp.get x=none:=by
  intro x hx hn;refine fac.dead x hx ?_;show (wC m prev h.hp).get x=none;by_cases hh:Hid m prev x
  ·exact (nO prev h.hp x).1 hh
  ·rw[(nO prev h.hp x).2 hh];exact hn
 refine ⟨⟨⟨o.dst,v,λx=>decide (x∈h2.lg/\x<h.nx\/h.nx<=x/\x<h2.nx),h2.hp.get⟩,⟨i,true,[],below h.nx h2.lg [],h.nx,h2.nx⟩,m,λx=>(wC m prev h.hp).get x≠none,λx=>h.nx<=x,λx=>h.nx<=x/\x<h2.nx⟩,rfl,?_,th _ _ _,?_,λx hx=>ov.2 (.inr hx),λx hx hn hl=> ?_,λx hx hn hl=> ?_,λx hx=> ?_,λx hx=> ?_,λhc=>by cases hc⟩
 ·refine ⟨rfl,λro=> ?_,C6 cY,abV,rfl,abA Vs HU,λx=> ?_,(λhc=>by cases hc),λ_=>⟨rfl,rfl,λx hx=>⟨?_,λp hp hbp hxe=> ?_⟩,λx hx=>hx,λx hx=>hx⟩,fnx,fE,hb⟩
  ·subst he;refine vj.aFx (Wh (D:=λx=>decide (x∈h2.lg/\x<h.nx\/h.nx<=x/\x<h2.nx)) hi hw hd eT hc has IG (λx hx hl=> ?_) (λx hx hl=> ?_)) (λx hx=> ?_)
   ·have hn:¬(x∈h2.lg/\x<h.nx\/h.nx<=x/\x<h2.nx):=by simpa using hx
    exact fac.lg x hl (λhc=>hn (.inl ⟨hc,hl⟩))
   ·have hn:¬(x∈h2.lg/\x<h.nx\/h.nx<=x/\x<h2.nx):=by simpa using hx
    refine fac.bd x ?_;by_cases cX:x<h2.nx
    ·exact absurd (.inr ⟨hl,cX⟩) hn
    ·omega
   ·by_cases hh:Hid m prev x
    ·exact absurd ((nO prev h.hp x).1 hh) hx
    ·exact (nO prev h.hp x).2 hh
  ·show decide (x∈h2.lg/\x<h.nx\/h.nx<=x/\x<h2.nx)=true↔(x∈below h.nx h2.lg []\/(h.nx<=x/\x<h2.nx));rw[ov];simp
  ·by_cases hh:Hid m prev x
   ·exact absurd ((nO prev h.hp x).1 hh) hx
   ·rw[<-(nO prev h.hp x).2 hh];exact hx
  ·have hh:Hid m prev x:=⟨p.rc,by rw[<-HU];exact cO.2 ⟨p,hp,rfl⟩,hbp,hxe.symm⟩
   exact hx ((nO prev h.hp x).1 hh)
 ·funext x;show (pH m h.hp prev h2.hp).get x=kO _ h2.hp.get h.hp.get x;rw[P3];unfold kO;simp only[jX]
 ·show (pH m h.hp prev h2.hp).get x=_;rw[P3,aL (by
   rintro (⟨h1,h3⟩|⟨h1,_⟩)
   ·exact hl (ov.2 (.inl ⟨h1,h3⟩))
   ·omega)]
 ·show (pH m h.hp prev h2.hp).get x=_;rw[P3];split
  ·exact ayb x hx hl
  ·exact hl
 ·have hx:h2.nx<=x:=hx;show (pH m h.hp prev h2.hp).get x=_;rw[P3,aL (by omega)]
  exact fc x (by omega)
 ·intro BE;have hx:(pH m h.hp prev h2.hp).get x≠none:=hx;rw[P3] at hx;have auG:x<h.nx:=by omega
  have hn0:h.hp.get x=none:=by
   cases hq:h.hp.get x with
   |none=>rfl
   |some o'=>exact absurd ⟨by omega,BE.2⟩ (fE x (by rw[hq];simp))
  split at hx
  ·exact hx (ayb x auG hn0)
  ·exact hx hn0
def auU {k:SV->Hs->Out} (hf:∀s,Q (.fail s)) (ht:∀a b c,Q (.S5 a b c)) (hr:∀fv aa v h2,fo=some fv->ao=some aa->rec (.call fv aa h)= .res v h2->Q (k v h2)) (hp:∀fv aa v h2,fo=some fv->ao=some aa->rec (.call fv aa h)= .fR v h2->Q (kp v h2)):Q (auV rec h fo ao k kp):=by
 unfold auV;cases fo with
 |none=>exact hf _
 |some fv=>
  cases ao with
  |none=>exact hf _
  |some aa=>
   show Q (oneK (rec (.call fv aa h)) k kp);cases hrc:rec (.call fv aa h) with
   |iA l=>
    cases l with
    |nil=>exact hf _
    |cons r l=>
     cases l with
     |nil=>
      let ⟨fR,v,h2⟩:=r;cases fR with
      |false=>exact hr fv aa v h2 rfl rfl hrc
      |true=>exact hp fv aa v h2 rfl rfl hrc
     |cons _ _=>exact hf _
   |fail s=>exact hf _
   |S5 a b c=>exact ht _ _ _
   |_=>exact hf _
def OL (jH:∀j,Sound E j (rec j)) (nt W:Nat) (all:dd) (base i M:Nat) (prev:List Rc) (l:dd) (tm:de) (h:Hs):
  Sound E (.draw nt W all base i M prev l tm h) (Y8 E rec nt W all base i M prev l tm h):=by
 cases l with
 |nil=>
  intro ops he hW hd hb fc fE hinv hpr ps HU;exact ⟨⟨dg _,fc,λ_ _ _ _=>rfl,λ_ h=>h,λ_ _ _ h=>h⟩,ps,.nil⟩
 |cons o l=>
  show Sound E _ (aQ (kY nt o.dst && C7 i (mc o)) (force (Nat.mod (nW W M (mc o)) (Nat.pow 2 W)) λm=>ajC E rec nt W all base i M m prev l tm h o (gw all o tm.get)) (.fail ""))
  rw[bH];split;rotate_left
  ·trivial
  rename_i hd;rw[bF] at hd;let ⟨hd,cY⟩:=hd;rw[force_eq];generalize hm:Nat.mod (nW W M (mc o)) (Nat.pow 2 W)=m;unfold ajC;have next:∀(r:Rc) (v:SV) (h1:Hs) (out:Out),CB rec nt W all base i M m prev l tm o.dst r v h1=out->(∃s,out= .fail s)\/(qj m r prev=true/\out=rec (.draw nt W all base (i+1) (Nat.lor M (Nat.shiftLeft m (Nat.mul i W))) (r::prev) l (iY tm o.dst v) h1)):=by
   intro r v h1 out ho;unfold CB at ho;rw[bH,force_eq] at ho;split at ho
   ·rename_i hi;exact .inr ⟨hi,ho.symm⟩
   ·exact .inl ⟨_,ho.symm⟩
  cases hw:gw all o tm.get with
  |none=>trivial
  |some wb=>
   show Sound E _ (aQ wb (doD E rec nt W all base i M m prev l tm h o (wN o.op)) (CB rec nt W all base i M m prev l tm o.dst ⟨i,false,[],[],Nat.add base i,Nat.add (Nat.add base i) 1⟩ (.cS []) h));cases wb with
   |false=>
    show Sound E _ (CB rec nt W all base i M m prev l tm o.dst ⟨i,false,[],[],Nat.add base i,Nat.add (Nat.add base i) 1⟩ (.cS []) h);rcases next ⟨i,false,[],[],Nat.add base i,Nat.add (Nat.add base i) 1⟩ (.cS []) h _ rfl with ⟨s,hs⟩|⟨hi,hs⟩
    ·rw[hs];trivial
    ·rw[hs];exact ary m hm.symm cY hw hd hi (jH _)
   |true=>
    show Sound E _ (doD E rec nt W all base i M m prev l tm h o (wN o.op));unfold doD;cases hc:wN o.op with
    |none=>
     show Sound E _ (asU rec nt W all base i M m prev l tm h o (qT E o.op tm.get h.hp.get (Nat.add base i)));unfold asU;cases ho:qT E o.op tm.get h.hp.get (Nat.add base i) with
     |none=>trivial
     |some r=>
      show Sound E _ (CB rec nt W all base i M m prev l tm o.dst ⟨i,false,pB o.op tm.get,zf (Nat.add base i) r.2,Nat.add base i,Nat.add (Nat.add base i) 1⟩ r.1 (h.lS r.2));rcases next ⟨i,false,pB o.op tm.get,zf (Nat.add base i) r.2,Nat.add base i,Nat.add (Nat.add base i) 1⟩ r.1 (h.lS r.2) _ rfl with ⟨s,hs⟩|⟨hi,hs⟩
      ·rw[hs];trivial
      ·rw[hs];exact avu m hm.symm cY hw hd ho (GZ ho) hi (jH _)
    |some c=>
     let ⟨eT,_⟩:=Nf hc;refine auU (Q:=Sound E _) (λ_=>trivial) (λ_ _ _=>trivial) (λfv aa v h2 h1 h3 h4=> ?_) (λfv aa v h2 h1 h3 h4=> ?_)
     ·have hs:=jH (.call fv aa ⟨wC m prev h.hp,h.nx,[]⟩);rw[h4] at hs;rcases next ⟨i,true,[],below h.nx h2.lg [],h.nx,h2.nx⟩ v ⟨pH m h.hp prev h2.hp,h2.nx,below h.nx h2.lg h.lg⟩ _ rfl with ⟨s,he⟩|⟨hi,he⟩
      ·rw[he];trivial
      ·rw[he];exact arz m hm.symm cY hw hd eT h1 h3 hs hi (jH _)
     ·trivial
end
section
section
variable {F:Fence} {n:Nat} {P:Program} {Q:Exit->Act->World->Prop} {a:Act} {w:World} {c:Code}
def zp (h:c.wpIn F n P (Exit.then (PJ F n P c Q) Q) a w):PJ F n P c Q a w:=by
 intro b k cs iv hb hr;let ⟨e,a₁,w₁,hq,po⟩:=h b (.inLoop c::k) cs iv hb hr;cases e with
 |normal=>
  let ⟨e₂,a₂,w₂,aJZ,aCq⟩:=hq b k cs iv hb hr;exact ⟨e₂,a₂,w₂,aJZ,.of_steps (StepsIn.trans po (.one (fenced_calm hb hr rfl) stepR_inLoop)) aCq⟩
 |exit id=>exact ⟨_,a₁,w₁,hq,.pass (x:=.inLoop c) rfl (λ_ _=>.inl (by simp)) po⟩
 |goto l=>exact ⟨_,a₁,w₁,hq,.pass (x:=.inLoop c) rfl (λ_ _=>.inl (by simp)) po⟩
 |ret=>exact ⟨_,a₁,w₁,hq,.pass (x:=.inLoop c) rfl (λ_ _=>.inl (by simp)) po⟩
 |panic ch=>exact ⟨_,a₁,w₁,hq,.pass (x:=.inLoop c) rfl (λ_ _=>.inl (by simp)) po⟩
 |outgrown=>exact ⟨_,a₁,w₁,hq,.pass (x:=.inLoop c) rfl (λ_ _=>.inl (by simp)) po⟩
def S3 (h:PJ F n P c Q a w):(Code.loop c).wpIn F n P Q a w:=λb k cs iv hb hr=>
 let ⟨e,a',w',hq,po⟩:=h b k cs iv hb hr
 ⟨e,a',w',hq,.of_steps (.one (fenced_calm hb hr rfl) stepR_loop) po⟩
def nV (h:wpX F n P c Q a w):c.wpIn F n P Q a w:=by
 cases c<;>first|exact h|exact S3 h
end
variable {E:Env} {g:Gh} {f:Hf} {w:World}
def okL {a b:Code} (h:codeOk (.seq a b)=true):codeOk a=true:=by
 have h:(codeOk a&&codeOk b)=true:=h;rw[bF] at h;exact h.1
def okR {a b:Code} (h:codeOk (.seq a b)=true):codeOk b=true:=by
 have h:(codeOk a&&codeOk b)=true:=h;rw[bF] at h;exact h.2
def km.seq {nt:Nat} {a b:Code} {mk:List Dm} (k1:km E nt a tm mk h l1) (kin:∀o∈l1,(o.e= .normal/\∃r',km E nt b o.tm o.dm o.h r'/\∀x∈r',x∈r)\/(o.e≠ .normal/\o∈r)) (atY:∀x∈r,∃o∈l1,(∃r',km E nt b o.tm o.dm o.h r'/\x∈r')\/x=o):km E nt (.seq a b) tm mk h r:=by
 let ⟨n1,f1,s1⟩:=k1;have cZ:r≠ []:=by
  let ⟨o,ho⟩:=mL _ n1;rcases kin o ho with ⟨_,r',⟨n2,_⟩,h2⟩|⟨_,h2⟩
  ·let ⟨x,hx⟩:=mL _ n2;exact AA (h2 x hx)
  ·exact AA h2
 refine ⟨cZ,λx hx=> ?_,λro m g ac w Q js iv hE ed hr hm eV hk=>wpIn_seq (nV ?_)⟩
 ·obtain ⟨o,ho,⟨r',⟨_,f2,_⟩,hx⟩|rfl⟩:=atY x hx
  ·exact ⟨(f1 o ho).1.trans (f2 x hx).1,oV.trans (f1 o ho).1.nx (f1 o ho).2 (f2 x hx).2⟩
  ·exact f1 x ho
 have hlen:∀o∈l1,ro=none\/o.dm.length=mk.length:=by
  intro o ho;rcases iv with iv|iv
  ·exact .inl iv
  ·refine .inr ?_;have h1:=(f1 o ho).2.1;rcases kin o ho with ⟨_,r',⟨n2,f2,_⟩,h2⟩|⟨_,h2⟩
   ·let ⟨x,hx⟩:=mL _ n2;have h3:=(f2 x hx).2.1;have h4:=iv x (h2 x hx);omega
   ·exact iv o h2
 refine s1 ro m g ac w _ (okL js) (by
  by_cases h:ro=none
  ·exact .inl h
  ·exact .inr λo ho=>(hlen o ho).resolve_left h) hE ed hr hm eV (λo ho g1 a1 w1 x q0 q1 q2 q3 q4 q5 q6=> ?_)
 rcases kin o ho with ⟨he,r',⟨n2,f2,s2⟩,h2⟩|⟨he,h2⟩
 ·rw[he] at q0;cases q0;refine nV (s2 ro m g1 a1 w1 Q (okR js) (iv.imp_right λiv z hz=> ?_) (hE.mono q3.le) q1 q2 q4 q5 (λz hz g2 a2 w2 x r0 r1 r2 r3 r4 r5 r6=>hk z (h2 z hz) g2 a2 w2 x r0 r1 r2 (q3.trans r3) r4 r5 (λy hy=>by rw[r6 y (mC hy (f1 o ho).1.nx),q6 y hy])))
  have h1:=(f1 o ho).2.1;have h3:=(f2 z hz).2.1;have h4:=iv z (h2 z hz);omega
 ·have:=hk o h2 g1 a1 w1 x q0 q1 q2 q3 q4 q5 q6;generalize o.e=e at q0 he;cases q0 with
  |normal=>exact absurd rfl he
  |exit id=>exact this
  |ret=>exact this
  |fR hv=>exact this
def km.loop {nt:Nat} {c:Code} {mk:List Dm} (k1:km E nt c tm mk h l1) (kin:∀o∈l1,(o.e= .normal/\∃r',km E nt (.loop c) o.tm o.dm o.h r'/\∀x∈r',x∈r)\/(o.e≠ .normal/\o∈r)) (atY:∀x∈r,∃o∈l1,(∃r',km E nt (.loop c) o.tm o.dm o.h r'/\x∈r')\/x=o):km E nt (.loop c) tm mk h r:=by
 let ⟨n1,f1,s1⟩:=k1;have cZ:r≠ []:=by
  let ⟨o,ho⟩:=mL _ n1;rcases kin o ho with ⟨_,r',⟨n2,_⟩,h2⟩|⟨_,h2⟩
  ·let ⟨x,hx⟩:=mL _ n2;exact AA (h2 x hx)
  ·exact AA h2
 refine ⟨cZ,λx hx=> ?_,λro m g ac w Q js iv hE ed hr hm eV hk=>zp (nV ?_)⟩
 ·obtain ⟨o,ho,⟨r',⟨_,f2,_⟩,hx⟩|rfl⟩:=atY x hx
  ·exact ⟨(f1 o ho).1.trans (f2 x hx).1,oV.trans (f1 o ho).1.nx (f1 o ho).2 (f2 x hx).2⟩
  ·exact f1 x ho
 have hlen:∀o∈l1,ro=none\/o.dm.length=mk.length:=by
  intro o ho;rcases iv with iv|iv
  ·exact .inl iv
  ·refine .inr ?_;have h1:=(f1 o ho).2.1;rcases kin o ho with ⟨_,r',⟨n2,f2,_⟩,h2⟩|⟨_,h2⟩
   ·let ⟨x,hx⟩:=mL _ n2;have h3:=(f2 x hx).2.1;have h4:=iv x (h2 x hx);omega
   ·exact iv o h2
 refine s1 ro m g ac w _ js (by
  by_cases h:ro=none
  ·exact .inl h
  ·exact .inr λo ho=>(hlen o ho).resolve_left h) hE ed hr hm eV (λo ho g1 a1 w1 x q0 q1 q2 q3 q4 q5 q6=> ?_)
 rcases kin o ho with ⟨he,r',⟨n2,f2,s2⟩,h2⟩|⟨he,h2⟩
 ·rw[he] at q0;cases q0;refine s2 ro m g1 a1 w1 Q js (iv.imp_right λiv z hz=> ?_) (hE.mono q3.le) q1 q2 q4 q5 (λz hz g2 a2 w2 x r0 r1 r2 r3 r4 r5 r6=>hk z (h2 z hz) g2 a2 w2 x r0 r1 r2 (q3.trans r3) r4 r5 (λy hy=>by rw[r6 y (mC hy (f1 o ho).1.nx),q6 y hy]))
  have h1:=(f1 o ho).2.1;have h3:=(f2 z hz).2.1;have h4:=iv z (h2 z hz);omega
 ·have:=hk o h2 g1 a1 w1 x q0 q1 q2 q3 q4 q5 q6;generalize o.e=e at q0 he;cases q0 with
  |normal=>exact absurd rfl he
  |exit id=>exact this
  |ret=>exact this
  |fR hv=>exact this
def PN (id i:Nat):leave id (.exit i)=if i=id then .normal else .exit i:=by
 show aQ (Nat.beq i id) Ex.normal (.exit i)=_;rw[bH,beq_eq];by_cases h:i=id<;>simp[h]
def km.block {nt id:Nat} {c:Code} {mk:List Dm} {l:List Oc} (k1:km E nt c tm mk h l) (hr:∀x,x∈r↔∃o∈l,x=⟨leave id o.e,o.tm,o.dm,o.h⟩):km E nt (.block id c) tm mk h r:=by
 let ⟨n1,f1,s1⟩:=k1;refine ⟨?_,λx hx=> ?_,λro m g a w Q js iv hE ed hrr hm eV hk=>wpIn_block (nV ?_)⟩
 ·let ⟨o,ho⟩:=mL _ n1;exact AA ((hr ⟨leave id o.e,o.tm,o.dm,o.h⟩).2 ⟨o,ho,rfl⟩)
 ·obtain ⟨o,ho,rfl⟩:=(hr x).1 hx;exact f1 o ho
 refine s1 ro m g a w _ js (iv.imp_right λiv o ho=>iv ⟨leave id o.e,o.tm,o.dm,o.h⟩ ((hr _).2 ⟨o,ho,rfl⟩)) hE ed hrr hm eV (λo ho g1 a1 w1 x q0 q1 q2 q3 q4 q5 q6=> ?_)
 have key:∀y,ExR g1 (leave id o.e) y->Q y a1 w1:=λy hy=>hk ⟨leave id o.e,o.tm,o.dm,o.h⟩ ((hr _).2 ⟨o,ho,rfl⟩) g1 a1 w1 y hy q1 q2 q3 q4 q5 q6
 generalize he:o.e=e at q0 key;cases q0 with
 |normal=>exact key _ .normal
 |ret=>exact key _ .ret
 |fR hv=>exact key _ (.fR hv)
 |exit i=>
  rw[PN] at key;show (if i=id then Q .normal a1 w1 else Q (.exit i) a1 w1)
  split
  ·rename_i hi;rw[aH hi] at key;exact key _ .normal
  ·rename_i hi;rw[aL hi] at key;exact key _ (.exit i)
def km.calm {nt:Nat} {c:Code} {mk:List Dm} (x:Exit) (hx:∀g,ExR g e x) (hb:Bd h) (hw:∀(ro:bP) (m:Nat) (Q:Exit->Act->World->Prop) (a:Act) (w:World),Q x a w->wpX (ow ro) m E.P c Q a w):km E nt c tm mk h [⟨e,tm,mk,h⟩]:=
 ⟨by simp,λo ho=>by
  obtain rfl:=ez.1 ho;exact ⟨p9.refl hb,oV.refl _ _⟩,λro m g a w Q _ _ hE ed hr hm eV hk=>hw ro m Q a w (hk ⟨e,tm,mk,h⟩ (by simp) g a w x (hx g) ed hr (Fr.refl _ _ _) hm eV λ_ _=>rfl)⟩
def km.ops {nt id:Nat} {ops:dF} {mk:List Dm} (k:OpsS E nt ops ops.toList tm mk h r):km E nt (.region id ops false) tm mk h r:=by
 let ⟨n1,f1,s1⟩:=k;refine ⟨n1,f1,λro m g a w Q js iv hE ed hr hm eV hk=>wpIn_region ?_⟩
 have:=s1 ro m g a w Q iv hE ed hr hm eV hk;simpa[Oz] using this
def km.draw {nt id:Nat} {ops:dF} {mk:List Dm} {out:List St} (hf:FacD h.nx 0 ops.size ⟨h.hp,Nat.add h.nx ops.size,h.lg⟩ h1) (hd:DT E nt ops.size ops h.nx 0 [] ops.toList tm.get h.hp.get (Nat.add h.nx ops.size) D9.get h1.hp.get h1.nx out):km E nt (.region id ops true) tm mk h [⟨.normal,D9,mk,h1⟩]:=by
 have hnx0:h.nx<=h1.nx:=jj (xy _ _) hf.nx;refine ⟨by simp,λo ho=> ?_,λro m g a w Q js iv hE ed hr hm eV hk=> ?_⟩
 ·obtain rfl:=ez.1 ho;exact ⟨⟨hnx0,hf.bd,λx hx hn=>hf.lg x (mC hx (xy _ _)) (by omega) hn,hf.sub,λx hx hn=>hf.dead x (mC hx (xy _ _)) (by omega) hn⟩,oV.refl _ _⟩
 exact afZ (show AI ops.size ops.toList ops.toList 0 0 []=true from js) hE.mix (kq (dg _)) hd (xy _ _) hE ed hr eV (.inl (by simp)) (λ_ g1 a1 w1 q1 q2 q3 q4 q5 q6=>hk ⟨.normal,D9,mk,h1⟩ (by simp) g1 a1 w1 _ .normal q1 q2 q3 (by rw[q4];exact hm.mono q3.le) q6 q5)
def J4.zero (ops:dF) (W:Nat):J4 ops W 0 0:=λp hp=>by simp at hp
def U7 (h:Hs) (l:Nat) (o:SO):(h.put l o).hp.get=jo h.hp.get (l,some o):=funext λx=>Tr.pD _ _ _ _
end
section
variable {E:Env} {g:Gh} {f:Hf} {w:World}
variable {P:Program}
def Jx (h:Vu E x=true):∃k fi ca fn,x= .fn (.func k) fi ca/\E.fn.get k=some fn/\fn.body.isSome=true:=by
 cases x with
 |fn f fi ca=>
  cases f with
  |func k=>
   have h: @Option.rec Func (λ_=>Bool) false (λfn=>fn.body.isSome) (E.fn.get k)=true:=h
   cases hf:E.fn.get k with
   |none=>rw[hf] at h;cases h
   |some fn=>rw[hf] at h;exact ⟨k,fi,ca,fn,rfl,hf,h⟩
  |_=>cases h
 |_=>cases h
def pK (hf:P.funcs[k]? =some fn) (hb:fn.body.isSome=true) (args:ig) (w:World):
  ((callFunc k args).run P w= .ok .numGoroutine w/\fn.name= "runtime.NumGoroutine")\/(callFunc k args).run P w= .ok (.enter k args) w:=by
 have h2:fn.body≠none:=by cases hfb:fn.body<;>simp_all
 by_cases h:fn.name= "runtime.NumGoroutine"
 ·left;exact ⟨by simp[callFunc,hf,h,Sem.run],h⟩
 ·right;simp[callFunc,hf,h,h2,Sem.run]
def IW (k:FuncId) (fi ca us:ig) (w:World):(Deferred.ofValue (.func (.func k) fi ca) us).run P w= .ok {target:=.fn (.func k) ca,args:=fi++us} w:=rfl
def Ac {mk:List Dm} {k:de->List Dm->Hs->Out} (hs:seqE e tm mk h k= .db r):(e= .normal/\k tm mk h= .db r)\/(e≠ .normal/\r= [⟨e,tm,mk,h⟩]):=by
 cases e with
 |normal=>exact .inl ⟨rfl,hs⟩
 |exit id=>cases hs;exact .inr ⟨λe=>(by cases e),rfl⟩
 |ret=>cases hs;exact .inr ⟨λe=>(by cases e),rfl⟩
 |fR v=>cases hs;exact .inr ⟨λe=>(by cases e),rfl⟩
def OM (hS:Ci E) (jH:∀j,Sound E j (rec j)) (nt:Nat) (c:Code) (tm:de) (mk:List Dm) (h:Hs):Sound E (.code nt c tm mk h) (ayR c E rec nt tm mk h):=by
 cases c with
 |skip=>exact λhb=>km.calm .normal (λ_=>.normal) hb λro m Q a w hq=>wpIn_skip hq
 |ret=>exact λhb=>km.calm .ret (λ_=>.ret) hb λro m Q a w hq=>wpIn_ret hq
 |exit id=>exact λhb=>km.calm (.exit id) (λ_=>.exit id) hb λro m Q a w hq=>wpIn_exit hq
 |region id ops draw=>
  cases draw with
  |false=>
   show Sound E _ (rec (.ops nt ops.toList ops.toList tm mk h));have hs:=jH (.ops nt ops.toList ops.toList tm mk h);cases hr:rec (.ops nt ops.toList ops.toList tm mk h) with
   |db r=>
    rw[hr] at hs;intro hb;exact km.ops (hs ops rfl (by simp) hb)
   |_=>trivial
  |true=>
   show Sound E _ (stK (rec (.draw nt ops.size ops.toList h.nx 0 0 [] ops.toList tm ⟨h.hp,Nat.add h.nx ops.size,h.lg⟩)) λw6 h'=>.code .normal w6 mk h')
   have hs:=jH (.draw nt ops.size ops.toList h.nx 0 0 [] ops.toList tm ⟨h.hp,Nat.add h.nx ops.size,h.lg⟩);cases hr:rec (.draw nt ops.size ops.toList h.nx 0 0 [] ops.toList tm ⟨h.hp,Nat.add h.nx ops.size,h.lg⟩) with
   |st D9 h1=>
    rw[hr] at hs;intro hb;let ⟨f1,out,hd⟩:=hs ops rfl rfl (by simp) (dg _) (λx hx=>hb x (jj (xy _ _) hx)) (λx hx hc=>hx (hb x (by omega))) (J4.zero _ _) (λp hp=>by simp at hp) [] rfl
    exact km.draw f1 hd
   |_=>trivial
 |seq a b=>
  show Sound E _ (UW (rec (.code nt a tm mk h)) λw6 mk' h'=>rec (.code nt b w6 mk' h'))
  cases fE:UW (rec (.code nt a tm mk h)) λw6 mk' h'=>rec (.code nt b w6 mk' h') with
  |db r=>
   let ⟨l1,h1,h2⟩:=Bk fE;let ⟨_,q1,q2⟩:=uf h2;have hs:=jH (.code nt a tm mk h);rw[h1] at hs;intro hb;have k1:=hs hb;have sub:∀(o:Oc) r',o∈l1->rec (.code nt b o.tm o.dm o.h)= .db r'->km E nt b o.tm o.dm o.h r':=λo r' ho jB=>by
    have:=jH (.code nt b o.tm o.dm o.h);rw[jB] at this;exact this (k1.2.1 o ho).1.bd
   refine k1.seq (λo ho=> ?_) (λx hx=> ?_)
   ·let ⟨r',e1,e2⟩:=q1 o ho;rcases Ac e1 with ⟨he,jB⟩|⟨he,rfl⟩
    ·exact .inl ⟨he,r',sub o r' ho jB,e2⟩
    ·exact .inr ⟨he,e2 _ (by simp)⟩
   ·let ⟨o,ho,r',e1,e2⟩:=q2 x hx;rcases Ac e1 with ⟨he,jB⟩|⟨he,rfl⟩
    ·exact ⟨o,ho,.inl ⟨r',sub o r' ho jB,e2⟩⟩
    ·exact ⟨o,ho,.inr (ez.1 e2)⟩
  |_=>trivial
 |cond c a b=>
  show Sound E _ (alR (cE tm.get c) (rec (.code nt a tm mk h)) (rec (.code nt b tm mk h)));unfold alR;cases hv:az (cE tm.get c) oU with
  |none=>trivial
  |some t=>
   let ⟨x,h1,h2⟩:=aq hv;obtain rfl:=uS h2;have hev:∀(g:Gh) (ac:Act),FR g nt tm.get ac.tmps->ac.eval c= .bool t:=λg ac ed=>by
    have:=ot ed h1;generalize ac.eval c=u at this;cases this;rfl
   show Sound E _ (aQ t (rec (.code nt a tm mk h)) (rec (.code nt b tm mk h)));cases t with
   |true=>
    show Sound E _ (rec (.code nt a tm mk h));have hs:=jH (.code nt a tm mk h);cases hr:rec (.code nt a tm mk h) with
    |db r=>
     rw[hr] at hs;intro hb;let ⟨n1,f1,s1⟩:=hs hb;exact ⟨n1,f1,λro m g ac w Q js iv hE ed hrr hm eV hk=>wpIn_cond_true (hev g ac ed) (nV (s1 ro m g ac w Q (okL js) iv hE ed hrr hm eV hk))⟩
    |_=>trivial
   |false=>
    show Sound E _ (rec (.code nt b tm mk h));have hs:=jH (.code nt b tm mk h);cases hr:rec (.code nt b tm mk h) with
    |db r=>
     rw[hr] at hs;intro hb;let ⟨n1,f1,s1⟩:=hs hb;exact ⟨n1,f1,λro m g ac w Q js iv hE ed hrr hm eV hk=>wpIn_cond_false (hev g ac ed) (nV (s1 ro m g ac w Q (okR js) iv hE ed hrr hm eV hk))⟩
    |_=>trivial
 |block id c=>
  show Sound E _ (acF id (rec (.code nt c tm mk h)));cases fE:acF id (rec (.code nt c tm mk h)) with
  |db r=>
   let ⟨l1,h1,h2⟩:=Bk fE;let ⟨_,q1,q2⟩:=uf h2;have hs:=jH (.code nt c tm mk h);rw[h1] at hs;intro hb;refine (hs hb).block (λx=>⟨λhx=> ?_,λ⟨o,ho,hx⟩=> ?_⟩)
   ·let ⟨o,ho,r',e1,e2⟩:=q2 x hx;cases e1;exact ⟨o,ho,ez.1 e2⟩
   ·let ⟨r',e1,e2⟩:=q1 o ho;cases e1;subst hx;exact e2 _ (by simp)
  |_=>trivial
 |loop c=>
  show Sound E _ (UW (rec (.code nt c tm mk h)) λw6 mk' h'=>rec (.code nt (.loop c) w6 mk' h'))
  cases fE:UW (rec (.code nt c tm mk h)) λw6 mk' h'=>rec (.code nt (.loop c) w6 mk' h') with
  |db r=>
   let ⟨l1,h1,h2⟩:=Bk fE;let ⟨_,q1,q2⟩:=uf h2;have hs:=jH (.code nt c tm mk h);rw[h1] at hs;intro hb;have k1:=hs hb;have sub:∀(o:Oc) r',o∈l1->rec (.code nt (.loop c) o.tm o.dm o.h)= .db r'->km E nt (.loop c) o.tm o.dm o.h r':=λo r' ho jB=>by
    have:=jH (.code nt (.loop c) o.tm o.dm o.h);rw[jB] at this;exact this (k1.2.1 o ho).1.bd
   refine k1.loop (λo ho=> ?_) (λx hx=> ?_)
   ·let ⟨r',e1,e2⟩:=q1 o ho;rcases Ac e1 with ⟨he,jB⟩|⟨he,rfl⟩
    ·exact .inl ⟨he,r',sub o r' ho jB,e2⟩
    ·exact .inr ⟨he,e2 _ (by simp)⟩
   ·let ⟨o,ho,r',e1,e2⟩:=q2 x hx;rcases Ac e1 with ⟨he,jB⟩|⟨he,rfl⟩
    ·exact ⟨o,ho,.inl ⟨r',sub o r' ho jB,e2⟩⟩
    ·exact ⟨o,ho,.inr (ez.1 e2)⟩
  |_=>trivial
 |_=>trivial
end
section
variable {E:Env} {g:Gh} {f:Hf} {w:World}
variable {nt:Nat} {T:Tf} {a:Act}
def HR.grow (h:HR g f w) (mH:w.heap.size<=w'.heap.size) (hs:∀b,b<w.heap.size->w'.heap[b]? =w.heap[b]?):HR g f w':=
 ⟨λid o ho=>let ⟨b,c,q1,q2,q3⟩:=h.ob id o ho;⟨b,c,q1,mC q2 mH,q3.mono (.refl _) q1 (hs b q2)⟩,h.inj⟩
def aaz (a:Act):ResultVar->Go.Sem Value
 | .tmp t=>pure (a.tmps.getD t undef)
 | .cell k t=>do loadVar t (<-asAddr (a.tmps.getD k undef))
def afY (hE:dW E g) (h:HR g f w) (ed:FR g nt T a.tmps) (hx:Pe E T f rv=some x):∃v,(aaz a rv).run E.P w= .ok v w/\VR g v x:=by
 cases rv with
 |tmp t=>exact ⟨_,rfl,ed.tm t x hx⟩
 |cell k t=>
  let ⟨y,hy,hl⟩:=aq (show az (T k) (oX E f t)=some x from hx);have hu:=ed.tm k y hy;let ⟨v,hv,hvr⟩:=PK hE h hu hl;let ⟨q,h1,_⟩:=aq hl;obtain rfl:=oe h1;refine ⟨v,?_,hvr⟩;generalize hz:a.tmps.getD k undef=z at hu hv;cases hu with
  |ptr hρ=>
   simp only[Instr.loadAt,Instr.sureAddr,Sem.run_bind,Sem.run_pure,Result.andThen_ok] at hv;simp only[aaz,hz,asAddr,Sem.run_bind,Sem.run_pure,Result.andThen_ok];exact hv
def IK (hE:dW E g) (h:HR g f w) {nt:Nat} {T:Tf} {a:Act} (ed:FR g nt T a.tmps):∀{rvs:List ResultVar} {xs:aY},sy E T f rvs=some xs->∃vs,(rvs.mapM (aaz a)).run E.P w= .ok vs w/\j8 g vs xs
 | [],xs,hx=>by cases hx;exact ⟨[],by simp,.nil⟩
 |rv::rvs,xs,hx=>by
  let ⟨x,l,h1,h2,hx⟩:=bp (show bT (Pe E T f rv) (sy E T f rvs) (λv l=>some (v::l))=some xs from hx)
  cases hx;let ⟨v,pO,qZ⟩:=afY hE h ed h1;let ⟨vs,hs1,hs2⟩:=IK hE h ed h2;refine ⟨v::vs,?_,.cons qZ hs2⟩;rw[SZ];simp only[Sem.run_bind];rw[pO];simp only[Result.andThen_ok];rw[hs1];simp
def IJ (hE:dW E g) (h:HR g f w) (ed:FR g nt T a.tmps) (hx:sy E T f fn.results.toList=some xs):∃v,(results fn a.tmps).run E.P w= .ok v w/\VR g v (oneOf xs):=by
 let ⟨vs,h1,h2⟩:=IK hE h ed hx;refine ⟨if h:vs.toArray.size=1 then vs.toArray[0] else .tuple vs.toArray,?_,?_⟩
 ·have e:∀f:ResultVar->Go.Sem Value,(∀x,f x=aaz a x)->fn.results.mapM f=fn.results.mapM (aaz a):=λf hf=>by rw[funext hf]
  unfold results;rw[e _ (λx=>by cases x<;>rfl)]
  rw[<-Array.toArray_toList (xs:=fn.results),List.mapM_toArray];simp only[Sem.run_bind,Sem.run_map];rw[h1];simp
 ·cases h2 with
  |nil=>exact .cS (by simpa using .nil)
  | @cons v x vs' xs' hv ht=>
   cases ht with
   |nil=>simpa[oneOf] using hv
   | @cons v2 x2 vs2 xs2 qZ ht2=>
    have:¬(v::v2::vs2).toArray.size=1:=by simp
    rw[dif_neg this];exact .cS (by simpa using .cons hv (.cons qZ ht2))
def Dp:∀(vs:aY) (i:Nat) (t:de) (j:Nat),(setArgs vs i t).get j=if i<=j/\j<i+vs.length then vs[j-i]? else t.get j
 | [],i,t,j=>by
  have:¬(i<=j/\j<i+([]:aY).length):=by simp
  rw[aL this];rfl
 |v::vs,i,t,j=>by
  have e:setArgs (v::vs) i t=setArgs vs (i+1) (t.set i (some v)):=rfl;rw[e,Dp vs (i+1) _ j,Tr.pD];by_cases h1:j=i
  ·subst h1;rw[aL (by omega),aH rfl,aH (by simp)]
   simp
  ·by_cases h2:i+1<=j/\j<i+1+vs.length
   ·rw[aH h2,aH (by simp;omega)]
    have:j-i=(j-(i+1))+1:=by omega
    rw[this,rT]
   ·rw[aL h2,aL h1,aL (by simp;omega)]
def FR.args {us:fu} (h:j8 g us aa) (hn:aa.length<=nt):FR g nt (setArgs aa 0 .nil).get (us.toArray++Array.replicate (nt-us.toArray.size) undef):=by
 have hl:=h.length;refine ⟨by simp;omega,λt x hx=> ?_⟩
 rw[Dp] at hx;split at hx
 ·rename_i hc;let ⟨v,h1,h2⟩:=h.get hx;have cY:t<us.length:=by omega
  have e:(us.toArray++Array.replicate (nt-us.toArray.size) undef).getD t undef=v:=by
   rw[mh,Ia (by simpa using cY)]
   simp only[Nat.sub_zero] at h1;simp[h1]
  rw[e];exact h2
 ·cases hx
def oC.calls {fR:Bool} (h:oC E fR fv aa H nx v h'.hp.get h'.nx):yh E fv aa H nx [⟨fR,v,h'⟩]:=
 λm g w u us hE hr eV hu jL=>(h m g w u us hE hr eV hu jL).mono λe w' ⟨r,q1,g',q2,q3,q4,q5,q6⟩=>⟨_,ez.2 rfl,r,g',q1,q2,q3,q4,q5,q6⟩
def avJ {r:Rs} (h1:Bd h->p9 h r.h/\oC E r.fR fv aa h.hp.get h.nx r.v r.h.hp.get r.h.nx):Sound E (.call fv aa h) (.iA [r]):=by
 intro hb;let ⟨q1,q2⟩:=h1 hb;refine ⟨by simp,λr' hr=> ?_,q2.calls⟩
 obtain rfl:=ez.1 hr;exact q1
def URel (g:Gh) (u:eh) (um:FrameMode):Prop:=
 match u with
 |none=>um= .returning
 |some v=>∃x,um= .panicking [{v:=x,recovered:=false}]/\VR g x v
end
section
variable {E:Env} {g:Gh} {f:Hf} {w:World}
def I5 (hS:Ci E) (jH:∀j,Sound E j (rec j)):∀(mk:List Dm) (u:eh) (h:Hs) (l:List Rs),EA E fn tm mk u h= .iA l->Bd h->l≠ []/\(∀r∈l,p9 h r.h)/\
  ∀(m nt:Nat) (g:Gh) (w:World) (a:Act) (ds:List Deferred) (um:FrameMode) (R:Ending->World->Prop),dW E g->FR g nt tm.get a.tmps->HR g h.hp.get w->Marks g mk ds->URel g u um->(∀x,h.nx<=x->g.Z x=none)->
   (∀r∈l,∀e w',QE g h.hp.get w h.nx r e w'->R e w')->LeavesInM Fence.wide m E.P fn a.tmps R ds um w
 | [],u,h,l,fE,hb=>by
  have fE:avp E fn tm u h= .iA l:=fE;unfold avp at fE;cases u with
  |some v=>
   cases (show Out.iA [⟨true,v,h⟩]= .iA l from fE);refine ⟨by simp,λr hr=> ?_,λm nt g w a ds um R hE ed hr vV hu eV hk=> ?_⟩
   ·obtain rfl:=ez.1 hr;exact p9.refl hb
   ·cases vV;obtain ⟨x,rfl,hx⟩:=hu;exact hk _ (ez.2 rfl) _ _ ⟨x,g,rfl,hx,hr,Fr.refl _ _ _,λ_ _=>rfl,eV⟩
  |none=>
   have fE: @Option.rec aY (λ_=>Out) (.fail fn.name) (λvs=>.res (oneOf vs) h) (sy E tm.get h.hp.get fn.results.toList)= .iA l:=fE
   cases hv:sy E tm.get h.hp.get fn.results.toList with
   |none=>rw[hv] at fE;cases fE
   |some vs=>
    rw[hv] at fE;cases (show Out.iA [⟨false,oneOf vs,h⟩]= .iA l from fE);refine ⟨by simp,λr hr=> ?_,λm nt g w a ds um R hE ed hr vV hu eV hk=> ?_⟩
    ·obtain rfl:=ez.1 hr;exact p9.refl hb
    ·cases vV;have hu:um= .returning:=hu;subst hu;let ⟨v,pO,qZ⟩:=IJ hE hr ed hv;exact ⟨v,pO,hk _ (ez.2 rfl) _ _ ⟨v,g,rfl,qZ,hr,Fr.refl _ _ _,λ_ _=>rfl,eV⟩⟩
 |_::_,_,_,_,fE,_=>by cases fE
end
section
variable {E:Env} {g:Gh} {f:Hf} {w:World}
structure Weak (a j:Rs):Prop where
 fR:j.fR=a.fR
 v:j.v=a.v
 sub:∀x z,j.h.hp.get x=some z->a.h.hp.get x=some z
 nx:a.h.nx<=j.h.nx
def Weak.post {a j:Rs} (h:Weak a j) {e:Ending} (hp:QE g H w nx a e w'):QE g H w nx j e w':=by
 let ⟨u,g',h1,h2,h3,h4,h5,h6⟩:=hp;refine ⟨u,g',by rw[h.fR];exact h1,by rw[h.v];exact h2,h3.sub h.sub,⟨h4.os,h4.tape,h4.output,h4.size,h4.le,h4.old,λb hb ⟨id,o,c,q1,q2⟩=>h4.own b hb ⟨id,o,c,h.sub id o q1,q2⟩⟩,h5,λx hx=>h6 x (jj h.nx hx)⟩
def Qm {r:Out} {l:List Rs} (h:XM nx lg r= .iA l):∃l',r= .iA l'/\(l'≠ [])/\(∀x∈l',(⟨x.fR,x.v,⟨x.h.hp,x.h.nx,below nx x.h.lg lg⟩⟩:Rs)∈l)/\∀y∈l,∃x∈l',y=⟨x.fR,x.v,⟨x.h.hp,x.h.nx,below nx x.h.lg lg⟩⟩:=by
 let ⟨l',h1,h2⟩:=apg h;let ⟨n1,q1,q2⟩:=JP h2;have one:∀(x:Rs) r',aQ x.fR (Out.fR x.v ⟨x.h.hp,x.h.nx,below nx x.h.lg lg⟩) (.res x.v ⟨x.h.hp,x.h.nx,below nx x.h.lg lg⟩)= .iA r'->r'= [⟨x.fR,x.v,⟨x.h.hp,x.h.nx,below nx x.h.lg lg⟩⟩]:=by
  intro x r' hx;cases hp:x.fR with
  |false=>rw[hp] at hx;cases hx;rfl
  |true=>rw[hp] at hx;cases hx;rfl
 refine ⟨l',h1,n1,λx hx=> ?_,λy hy=> ?_⟩
 ·let ⟨r',e1,e2⟩:=q1 x hx;rw[one x r' e1] at e2;exact e2 _ (by simp)
 ·let ⟨x,hx,r',e1,e2⟩:=q2 y hy;rw[one x r' e1] at e2;exact ⟨x,hx,ez.1 e2⟩
def arn (hS:Ci E) (jH:∀j,Sound E j (rec j)) {c:Code} {ca:aY} (sX:E.fn.get k=some fn) (oo:fn.body=some c) (Jf:fn.name≠ "runtime.NumGoroutine") (hlen:(fi++aa++ca).length<=fn.ntmps):
  Sound E (.call (.fn (.func k) fi ca) aa h) (aax E rec fn h.nx h.lg (rec (.code fn.ntmps c (setArgs (fi++aa++ca) 0 .nil) [] ⟨h.hp,h.nx,[]⟩))):=by
 cases fE:aax E rec fn h.nx h.lg (rec (.code fn.ntmps c (setArgs (fi++aa++ca) 0 .nil) [] ⟨h.hp,h.nx,[]⟩)) with
 |iA l=>
  intro hb;unfold aax at fE;let ⟨l1,h1,h2⟩:=age fE;let ⟨_,q1,q2⟩:=JP h2;have hs:=jH (.code fn.ntmps c (setArgs (fi++aa++ca) 0 .nil) [] ⟨h.hp,h.nx,[]⟩);rw[h1] at hs;let ⟨n1,f1,s1⟩:=hs hb;have way:∀o∈l1,∃u l2,LW o.e=some u/\EA E fn o.tm o.dm u o.h= .iA l2/\l2≠ []/\∀x∈l2,(⟨x.fR,x.v,⟨x.h.hp,x.h.nx,below h.nx x.h.lg h.lg⟩⟩:Rs)∈l:=by
   intro o ho;let ⟨r',e1,e2⟩:=q1 o ho;cases hu:LW o.e with
   |none=>rw[hu] at e1;cases e1
   |some u=>
    rw[hu] at e1;let ⟨l2,e3,e4,e5,_⟩:=Qm (show XM h.nx h.lg (EA E fn o.tm o.dm u o.h)= .iA r' from e1);exact ⟨u,l2,rfl,e3,e4,λx hx=>e2 _ (e5 x hx)⟩
  have back:∀y∈l,∃o∈l1,∃u l2,EA E fn o.tm o.dm u o.h= .iA l2/\∃x∈l2,y=⟨x.fR,x.v,⟨x.h.hp,x.h.nx,below h.nx x.h.lg h.lg⟩⟩:=by
   intro y hy;let ⟨o,ho,r',e1,e2⟩:=q2 y hy;cases hu:LW o.e with
   |none=>rw[hu] at e1;cases e1
   |some u=>
    rw[hu] at e1;let ⟨l2,e3,e4,_,e5⟩:=Qm (show XM h.nx h.lg (EA E fn o.tm o.dm u o.h)= .iA r' from e1);let ⟨x,hx,e6⟩:=e5 y e2;exact ⟨o,ho,u,l2,e3,x,hx,e6⟩
  refine ⟨?_,λy hy=> ?_,λm g w u us hE hr eV hu jL=> ?_⟩
  ·let ⟨o,ho⟩:=mL _ n1;let ⟨u,l2,_,_,e4,e5⟩:=way o ho;let ⟨x,hx⟩:=mL _ e4;exact AA (e5 x hx)
  ·obtain ⟨o,ho,u,l2,e3,x,hx,rfl⟩:=back y hy;let ⟨_,f2,_⟩:=I5 hS jH _ _ _ _ e3 (f1 o ho).1.bd;have f3:=(f1 o ho).1.trans (f2 x hx);refine ⟨f3.nx,f3.bd,λz hz hn=>f3.lg z hz (λhc=>hn (ov.2 (.inl ⟨hc,hz⟩))),λz hz=>ov.2 (.inr hz),f3.dead⟩
  cases hu with
  | @fn _ first eG _ _ pO qZ=>
  let ⟨hPf,js⟩:=hS.fn k fn sX;have qD:j8 g (first.toList++us++eG.toList) (fi++aa++ca):=(pO.append jL).append qZ
  have po:first++us.toArray++eG=(first.toList++us++eG.toList).toArray:=by apply uD;simp
  have auC:codeOk c=true:=by
   have js: @Option.rec Code (λ_=>Bool) true codeOk fn.body=true:=js
   rw[oo] at js;exact js
  refine ⟨{target:=.fn (.func k) eG,args:=first++us.toArray},rfl,.inl ⟨k,first++us.toArray++eG,?_,?_⟩⟩
  ·show (callFunc k (first++us.toArray++eG)).run E.P w=_
   rcases pK hPf (by rw[oo];rfl) (first++us.toArray++eG) w with ⟨_,hc⟩|hc
   ·exact absurd hc Jf
   ·exact hc
  rw[po];refine callsIn_of_wp_marks (F:=Fence.wide) hPf oo trivial (nV (F:=ow none) ?_);refine s1 none m g {tmps:=_,defers:= []} w _ auC (.inl rfl) hE (FR.args qD hlen) hr .nil eV (λo ho g1 a1 w1 x p0 p1 p2 p3 p4 p5 p6=> ?_)
  let ⟨uu,l2,DA,hlv,_,iw⟩:=way o ho;let ⟨_,f2,s2⟩:=I5 hS jH _ _ _ _ hlv (f1 o ho).1.bd;have fin:∀um,URel g1 uu um->LeavesInM Fence.wide m E.P fn a1.tmps (λe w'=>∃r∈l,QE g h.hp.get w h.nx r e w') a1.defers um w1:=by
   intro um hum;refine s2 m _ g1 w1 a1 a1.defers um _ (hE.mono p3.le) p1 p2 p4 hum p5 (λr hr e w' ⟨z,g',t1,t2,t3,t4,t5,t6⟩=> ?_)
   exact ⟨_,iw r hr,z,g',t1,t2,t3,p3.trans t4,λy hy=>by rw[t5 y (mC hy (f1 o ho).1.nx),p6 y hy],t6⟩
  generalize hoe:o.e=e at p0 DA;cases p0 with
  |normal=>cases DA;exact fin .returning rfl
  |ret=>cases DA;exact fin .returning rfl
  |exit id=>cases DA
  | @fR v z hv=>cases DA;exact fin _ ⟨z,rfl,hv⟩
 |_=>trivial
def N7 (h1:Bd h->p9 h h'/\oC E false fv aa h.hp.get h.nx v h'.hp.get h'.nx):Sound E (.call fv aa h) (.res v h'):=avJ (r:=⟨false,v,h'⟩) h1
def ajP {g:Gh} {w:World} (hr:HR g h.hp.get w) (hs:BY w w'):HR g h.hp.get w'/\Fr g h.hp.get w g h.hp.get w':=
 ⟨hr.grow hs.size hs.heap,⟨hs.os,hs.tape,hs.output,hs.size,.refl _,λb hb _=>hs.heap b hb,λb hb hm=>hm⟩⟩
def GL {P:Program} (h:Og P k) (args:ig) (w:World):(callFunc k args).run P w= .ok (.enter k args) w:=by
 let ⟨fn,h1,h2,h3⟩:=h;rcases pK h1 h2 args w with ⟨_,hc⟩|hc
 ·exact absurd hc h3
 ·exact hc
def avB {B C:Nat} (h1:A<=B) (h2:B<=C) (h3:C<=svs.length) (t:Nat):(zx A B C svs)[t]? =if t<A then svs[t]? else if t<A+(C-B) then svs[t+(B-A)]? else if t<C then some SV.undef else svs[t]? :=by
 have e:zx A B C svs=svs.take A++((svs.drop B).take (C-B)++(List.replicate (B-A) SV.undef++svs.drop C)):=rfl;rw[e,qH,dR,fB (by omega)]
 by_cases q1:t<A
 ·rw[aH q1,aH q1,eN,aH q1]
 ·rw[aL q1,aL q1,qH,dR,iX,fB (by omega)]
  by_cases q2:t<A+(C-B)
  ·rw[aH (by omega),aH q2,eN,aH (by omega),fa]
   congr 1;omega
  ·rw[aL (by omega),aL q2,qH,tR]
   by_cases q3:t<C
   ·rw[aH (by omega),aH q3,List.getElem?_replicate,aH (by omega)]
   ·rw[aL (by omega),aL q3,fa]
    congr 1;omega
def avA {B C:Nat} (h1:A<=B) (h2:B<=C) (h3:C<=svs.length):(zx A B C svs).length=svs.length:=by
 show (svs.take A++((svs.drop B).take (C-B)++(List.replicate (B-A) SV.undef++svs.drop C))).length=_;simp;omega
def j8.three {us:fu} {z:SV} (h:j8 g us [x,y,z]):∃a b c,us= [a,b,c]/\VR g a x/\VR g b y/\VR g c z:=by
 cases h with|cons h1 ht=>cases ht with|cons h2 ht=>cases ht with|cons h3 ht=>cases ht;exact ⟨_,_,_,rfl,h1,h2,h3⟩
def Cells.at {id o:Nat} {e:TypeId} (h:Cells g w id b o e cs):∃cur:ig,w.heap[b]? =some (.cells cur e (0,0))/\o+g.lim id<=cur.size/\o+cs.length<=cur.size/\∀(t:Nat) (x:SV),cs[t]? =some x->∃v,cur[o+t]? =some v/\v.oneCell'=true/\VR g v x:=by
 let ⟨⟨cur,m1,m0,vs,m2,m3⟩,m4⟩:=h;refine ⟨cur,m1,m0,?_,λt x hx=> ?_⟩
 ·have hl:=m2.length;rcases OE cs.length with q|q
  ·omega
  ·have:=m3 (cs.length-1) _ (dI (by omega))
   have:=(nh.1 this).1;omega
 ·let ⟨v,v1,v2,v3⟩:=m2.get hx;exact ⟨v,m3 t v v1,v2,v3⟩
def gN.apK {o:Nat} (h4:∀(t:Nat) (x:SV),cs[t]? =some x->∃v,cur[o+t]? =some v/\v.oneCell'=true/\VR g v x):∃vs,gN g vs cs/\∀(j:Nat) (v:Value),vs[j]? =some v->cur[o+j]? =some v:=by
 refine ⟨(cur.toList.drop o).take cs.length,gN.mk ?_ λj v x hv hx=> ?_,λj v hv=> ?_⟩
 ·rcases OE cs.length with q|q
  ·rw[q];simp
  ·let ⟨v,a,_,_⟩:=h4 (cs.length-1) _ (dI (by omega))
   have:=(nh.1 a).1;simp;omega
 ·let ⟨v',a,b,c⟩:=h4 j x hx;have hj:=(bY.1 hx).1;rw[eN,aH hj,fa,lx,a] at hv;cases hv;exact ⟨b,c⟩
 ·rw[eN] at hv;split at hv
  ·rw[fa,lx] at hv;exact hv
  ·cases hv
def Cells.mk' {id o:Nat} {e:TypeId} (h1:w.heap[b]? =some (.cells cur e (0,0))) (h2:o+g.lim id<=cur.size) (h3:g.et id=e) (h4:∀(t:Nat) (x:SV),cs[t]? =some x->∃v,cur[o+t]? =some v/\v.oneCell'=true/\VR g v x):Cells g w id b o e cs:=by
 let ⟨vs,a,b⟩:=gN.apK h4;exact ⟨⟨cur,h1,h2,vs,a,b⟩,h3⟩
def PV:∀{l:aY} {xs:List Int},LI l=some xs->l=mM xs
 | [],xs,h=>by cases h;rfl
 |v::l,xs,h=>by
  let ⟨x,r,h1,h2,h3⟩:=bp (show bT (akL v) (LI l) (λx r=>some (x::r))=some xs from h)
  cases h3;rw[PV h2];unfold akL at h1;split at h1
  ·cases h1;rfl
  ·cases h1
def JK:∀xs:List Int,(kT xs).length<=xs.length
 | []=>dg _
 | [x]=>dg _
 |x::y::l=>by
  have:=JK (y::l);show (if x=y then kT (y::l) else x::kT (y::l)).length<=_
  split
  ·exact Nat.le_succ_of_le this
  ·exact Nat.succ_le_succ this
def abx (x:Int):∀ys:List Int,(zt x ys).length=ys.length+1
 | []=>rfl
 |y::ys=>by
  unfold zt;split
  ·rfl
  ·rw[kr,abx x ys];rfl
def Wk:∀xs:List Int,(lK xs).length=xs.length
 | []=>rfl
 |x::xs=>by rw[lK,abx,Wk xs];rfl
def are (b:Bool) (xs:List Int):(Ai b xs).length=xs.length:=by
 cases b
 ·have:=JK xs;show (kT xs++List.replicate (xs.length-(kT xs).length) 0).length=_;rw[gO,tR];omega
 ·exact Wk xs
def j8.one {us:fu} (h:j8 g us [x]):∃a,us= [a]/\VR g a x:=by
 cases h with|cons h1 ht=>cases ht;exact ⟨_,rfl,h1⟩
def ard {k:Nat} {z:Bool} (hP:QG E.P k z) (h:HR g f w) {us:fu} (jL:j8 g us aa) {lS:dQ} (ho:PT z f aa=some (v,lS)) (m:Nat):
  Og E.P k/\CallsIn Fence.wide m E.P k us.toArray w λe w'=>∃r g',e= .returned r/\gZ g f w v lS new r g' w':=by
 let ⟨qt,h0,h1⟩:=hP;refine ⟨qt,?_⟩;unfold PT at ho;split at ho
 ·cases ho;obtain ⟨a,rfl,q⟩:=jL.one;cases q;refine CallsIn.mono (h0 m w none 0) ?_;rintro e w' ⟨rfl,e1,e2,e3,e4⟩;have hs:BY w w':=⟨e2,e3,e4,by rw[e1];exact dg _,λb _=>by rw[e1]⟩
  refine ⟨_,g,rfl,?_,h.grow hs.size hs.heap,⟨hs.os,hs.tape,hs.output,hs.size,.refl _,λb hb _=>hs.heap b hb,λb hb hm=>hm⟩,λ_ _=>rfl,λ_=>rfl⟩
  cases z
  ·exact .dE
  ·exact .cS .nil
 ·rename_i id off n cp;rw[bH] at ho;split at ho
  ·rename_i hn0;have hn0:n=0:=(beq_iff _ _).1 hn0;subst hn0;cases ho;obtain ⟨a,rfl,q⟩:=jL.one;cases q with
   | @sl _ _ _ b o c _ hρ uO jm vy=>
   refine CallsIn.mono (h0 m w (some ⟨b,o+off,none⟩) c) ?_;rintro e w' ⟨rfl,e1,e2,e3,e4⟩;have hs:BY w w':=⟨e2,e3,e4,by rw[e1];exact dg _,λb _=>by rw[e1]⟩
   refine ⟨_,g,rfl,?_,h.grow hs.size hs.heap,⟨hs.os,hs.tape,hs.output,hs.size,.refl _,λb hb _=>hs.heap b hb,λb hb hm=>hm⟩,λ_ _=>rfl,λ_=>rfl⟩
   cases z
   ·exact .sl hρ (qK _) jm vy
   ·exact .cS .nil
  let ⟨p,hp,ho⟩:=aq ho;let ⟨xs,hx,ho⟩:=aq ho;let ⟨hc,ho⟩:=aV ho;simp only[bF] at hc;let ⟨c0,c1,c2⟩:=hc;have c0:1<=n:=(bV _ _).1 c0;have c1:off+n<=p.2.length:=(bV _ _).1 c1;have c2:n<=4294967295:=(bV _ _).1 c2;cases ho;have hf:=kU hp;have hxs:=PV hx;have hn:xs.length=n:=by
   have:=bN List.length hxs;simp[mM] at this;omega
  subst hn;obtain ⟨a,rfl,q⟩:=jL.one;cases q with
  | @sl _ _ _ b o c _ hρ uO jm vy=>
  have o4:Cells g w id b o p.1 p.2:=(h.at hf hρ).2;let ⟨cur,m1,m0,ml,m2⟩:=o4.at;have mQ:∀t x,xs[t]? =some x->p.2[off+t]? =some (.int .i64 (.lit x)):=λt x qY=>by
   have hl:=(bY.1 qY).1;have e:=bN (λl=>l[t]?) hxs
   rw[eN,aH hl,fa] at e;rw[e,mM,lz,qY];rfl
  refine CallsIn.mono (h1 m w b (o+off) c xs cur p.1 m1 (by omega) c2 uO λt x qY=> ?_) ?_
  ·let ⟨u,u1,_,u3⟩:=m2 _ _ (mQ t x qY);cases u3 with|int _ _ e=>
   have e:_=x:=e;subst e;rw[fU];exact u1
  rintro e w' ⟨rfl,w1,iZ,hw,hs,mH,r1,r2⟩;have hgl:=are z xs;have abU:Cells g w1 id b o p.1 (p.2.take off++(mM (Ai z xs)++p.2.drop (off+xs.length))):=Cells.mk' hw.heap (by rw[mH];exact m0) o4.et λt x qY=>by
   rw[qH,dR,fB (by omega)] at qY
   split at qY
   ·rename_i ht;rw[eN,aH ht] at qY;rw[r1 (o+t) (.inl (by omega))];exact m2 t x qY
   ·rename_i ht;rw[qH,mM,nS,hgl] at qY;split at qY
    ·rename_i ht2;rw[lz] at qY;cases hy:(Ai z xs)[t-off]? with
     |none=>rw[hy] at qY;cases qY
     |some y=>
      rw[hy] at qY;cases qY;have:=r2 _ _ hy;rw[show o+off+(t-off)=o+t by omega] at this
      exact ⟨_,this,rfl,.int _ _ rfl⟩
    ·rename_i ht2;rw[fa] at qY;rw[r1 (o+t) (.inr (by omega))]
     have:=m2 _ x qY;rw[show o+t=o+(off+xs.length+(t-off-xs.length)) by omega]
     exact this
  let ⟨t1,t2⟩:=h.write (o':=.cells p.1 _) hf hρ hw.size hw.HN abU hw.os hw.tape hw.output;have t3:=t1.grow hs.size hs.heap;refine ⟨_,g,rfl,?_,t3,?_,λ_ _=>rfl,λ_=>rfl⟩
  ·cases z
   ·have:=JK xs;exact .sl hρ (by show (kT xs).length<=c;omega) jm vy
   ·exact .cS .nil
  ·exact t2.trans ⟨hs.os,hs.tape,hs.output,hs.size,.refl _,λb hb _=>hs.heap b hb,λb hb hm=>hm⟩
 ·cases ho
def Ws (hE:dW E g) {k c:Nat} (hP:Au E k c) (h:HR g f w) (hn:g.Z new=none) {us:fu} (jL:j8 g us aa) {lS:dQ} (ho:qA E c f new aa=some (v,lS)) (m:Nat):
  Og E.P k/\CallsIn Fence.wide m E.P k us.toArray w λe w'=>∃r g',e= .returned r/\gZ g f w v lS new r g' w':=by
 unfold qA at ho;rw[bH] at ho;split at ho
 ·rename_i auO;exact ard (hP.1 ((bV _ _).1 auO)) h jL ho m
 rename_i auO;let ⟨ie,hie,ho⟩:=aq ho;let ⟨hd,hi⟩:=hP.2 (by
  by_cases hc:c<1048576
  ·exact hc
  ·exact absurd ((bV _ _).2 (by omega)) auO) ie hie
 rw[bH] at ho;split at ho
 ·rename_i h0;let ⟨qt,hd⟩:=hd ((beq_iff _ _).1 h0);refine ⟨qt,?_⟩;unfold acv at ho;split at ho;rotate_left
  ·cases ho
  rename_i id off n cp a b _;let ⟨i,j,p,ha,hb,hp,ho⟩:=pY ho;let ⟨hc,ho⟩:=aV ho;simp only[bF] at hc;let ⟨c1,c2,c3⟩:=hc;have c1:i<j:=(bV _ _).1 c1;have c2:j<=n:=(bV _ _).1 c2;have c3:off+n*ie.size<=p.2.length:=(bV _ _).1 c3;cases ho;obtain rfl:=CD ha;obtain rfl:=CD hb;obtain ⟨x,y,z,rfl,q1,q2,q3⟩:=jL.three;have hf:=kU hp;cases q2 with|int _ _ e2=>cases q3 with|int _ _ e3=>
  have e2:_=(i:Int):=e2;have e3:_=(j:Int):=e3;subst e2;subst e3;cases q1 with
  | @sl _ _ _ b o c _ hρ uO jm vy=>
  have o4:Cells g w id b o p.1 p.2:=(h.at hf hρ).2;let ⟨cur,m1,m0,ml,m2⟩:=o4.at;have hA:i*ie.size<=j*ie.size:=kK _ (by omega)
  have hB:j*ie.size<=n*ie.size:=kK _ c2;refine CallsIn.mono (hd m w b (o+off) n c i j cur p.1 m1 (by omega) (λt ht u hu=> ?_) c1 c2 uO) ?_
  ·let ⟨u',u1,u2,_⟩:=m2 (off+t) _ (dI (by omega))
   rw[<-fU,hu] at u1;cases u1;exact u2
  rintro e w' ⟨rfl,iZ,hw,hs,r1,r2,r3⟩;have abU:Cells g w' id b o p.1 (zx (off+i*ie.size) (off+j*ie.size) (off+n*ie.size) p.2):=Cells.mk' hw.heap (by rw[hs];exact m0) o4.et λt x hx=>by
   rw[avB (by omega) (by omega) (by omega)] at hx
   split at hx
   ·rw[r1 (o+t) (.inl (by omega))];exact m2 t x hx
   ·split at hx
    ·have:=r2 (t-(off+i*ie.size)) (by omega)
     rw[show o+off+i*ie.size+(t-(off+i*ie.size))=o+t by omega,show o+off+j*ie.size+(t-(off+i*ie.size))=o+(t+(off+j*ie.size-(off+i*ie.size))) by omega] at this
     rw[this];exact m2 _ x hx
    ·split at hx
     ·cases hx;let ⟨u,u1,u2⟩:=r3 (t-(off+i*ie.size+(n*ie.size-j*ie.size))) (by omega)
      rw[show o+off+i*ie.size+(n*ie.size-j*ie.size)+(t-(off+i*ie.size+(n*ie.size-j*ie.size)))=o+t by omega] at u1
      exact ⟨u,u1,u2,.undef u⟩
     ·rw[r1 (o+t) (.inr (by omega))];exact m2 t x hx
  let ⟨t1,t2⟩:=h.write (o':=.cells p.1 _) hf hρ hw.size hw.HN abU hw.os hw.tape hw.output;exact ⟨_,g,rfl,.sl hρ (by show n-(j-i)<=c;omega) jm vy,t1,t2,λ_ _=>rfl,λ_=>rfl⟩
 ·rename_i h0;let ⟨qt,hi⟩:=hi (λe=>h0 ((beq_iff _ _).2 e))
  refine ⟨qt,?_⟩;unfold abv at ho;split at ho;rotate_left
  ·cases ho
  rename_i id off n cp a CH vq q c2 _;let ⟨i,p,p2,ha,hp,hp2,ho⟩:=pY ho;let ⟨hc,ho⟩:=aV ho;simp only[bF] at hc;let ⟨c1,c3,c4,c5,c6,c7,c8,c9,c10⟩:=hc;have c1:i<=n:=(bV _ _).1 c1;have c3:1<=q:=(bV _ _).1 c3;have c4:n<=1000000:=(bV _ _).1 c4;have c5:q<=1000000:=(bV _ _).1 c5;have c6:id≠CH:=λe=>by rw[(beq_iff _ _).2 e] at c6;cases c6
  have c7:p.1=Nat.div c 2:=(beq_iff _ _).1 c7;have c8:off+n*ie.size<=p.2.length:=(bV _ _).1 c8;have c9:vq+q*ie.size<=p2.2.length:=(bV _ _).1 c9;cases ho;obtain rfl:=CD ha;obtain ⟨x,y,z,rfl,q1,q2,q3⟩:=jL.three;have hf:=kU hp;have hf2:=kU hp2;cases q2 with|int _ _ e2=>
  have e2:_=(i:Int):=e2;subst e2;cases q1 with
  | @sl _ _ _ b o cc _ hρ uO jm vy=>
  cases q3 with
  | @sl _ _ _ b2 o2 cc2 _ hρ2 hnc2 aye hlim2=>
  have o4:Cells g w id b o p.1 p.2:=(h.at hf hρ).2;have aFo:Cells g w CH b2 o2 p2.1 p2.2:=(h.at hf2 hρ2).2;let ⟨cur,m1,m0,ml,m2⟩:=o4.at;let ⟨alO,n1,n0,nl,n2⟩:=aFo.at;have hbb:b2≠b:=λe=>c6 (h.inj id CH _ _ b o o2 hf hf2 hρ (by rw[<-e];exact hρ2))
  have my:o+off+cc*ie.size<=cur.size:=by
   cases cp with
   |k c0=>
    have:=jm c0 rfl;subst this;have:off+cc*ie.size<=p.2.length:=(bV _ _).1 c10;omega
   |u e0=>
    let ⟨l1,l2⟩:=vy e0 rfl;have:g.sz e0=ie.size:=by rw[<-l1,o4.et,c7];exact hE.size hie
    rw[this] at l2;omega
  refine CallsIn.mono (hi m w b (o+off) n cc i b2 (o2+vq) q cc2 cur alO p2.1 (by rw[m1,c7];rfl) n1 hbb my (by omega) (λt ht u hu=> ?_) (λt ht u hu=> ?_) uO c4 c3 c5 c1) ?_
  ·let ⟨u',u1,u2,_⟩:=m2 (off+t) _ (dI (by omega))
   rw[<-fU,hu] at u1;cases u1;exact u2
  ·let ⟨u',u1,u2,_⟩:=n2 (vq+t) _ (dI (by omega))
   rw[<-fU,hu] at u1;cases u1;exact u2
  rintro e w' ⟨b',o',c',iZ,rfl,hnc',hsz',mQ,hw⟩;have hle:=Gh.EB (g:=g) (p:=(b',o')) (l:=c'*ie.size) (e:=Nat.div c 2) hn;have hxl:((p.2.drop off).take (n*ie.size)).length=n*ie.size:=by simp;omega
  have hyl:((p2.2.drop vq).take (q*ie.size)).length=q*ie.size:=by simp;omega
  have hXl:((cur.toList.drop (o+off)).take (n*ie.size)).length=n*ie.size:=by simp;omega
  have hYl:((alO.toList.drop (o2+vq)).take (q*ie.size)).length=q*ie.size:=by simp;omega
  have iw:i*ie.size<=n*ie.size:=kK _ c1;have ayc:∀(t:Nat) (x:SV),(zu ((p.2.drop off).take (n*ie.size)) (i*ie.size) ((p2.2.drop vq).take (q*ie.size)))[t]? =some x->∃v,iZ[o'+t]? =some v/\v.oneCell'=true/\VR g v x:=λt x hx=>by
   have hl:t<n*ie.size+q*ie.size:=by
    have:=(bY.1 hx).1;simp[zu] at this;omega
   rw[mQ t (by rw[gD];exact hl)]
   show ∃v,((((cur.toList.drop (o+off)).take (n*ie.size)).take (i*ie.size))++(((alO.toList.drop (o2+vq)).take (q*ie.size))++(((cur.toList.drop (o+off)).take (n*ie.size)).drop (i*ie.size))))[t]? =some v/\_;have hx:((((p.2.drop off).take (n*ie.size)).take (i*ie.size))++(((p2.2.drop vq).take (q*ie.size))++(((p.2.drop off).take (n*ie.size)).drop (i*ie.size))))[t]? =some x:=hx;have src:∀s,s<n*ie.size->∀x,((p.2.drop off).take (n*ie.size))[s]? =some x->∃v,((cur.toList.drop (o+off)).take (n*ie.size))[s]? =some v/\v.oneCell'=true/\VR g v x:=λs hs x hx=>by
    rw[eN,aH hs,fa] at hx;let ⟨v,a,b,c⟩:=m2 _ x hx;exact ⟨v,by rw[eN,aH hs,fa,lx,fU];exact a,b,c⟩
   have src2:∀s,s<q*ie.size->∀x,((p2.2.drop vq).take (q*ie.size))[s]? =some x->∃v,((alO.toList.drop (o2+vq)).take (q*ie.size))[s]? =some v/\v.oneCell'=true/\VR g v x:=λs hs x hx=>by
    rw[eN,aH hs,fa] at hx;let ⟨v,a,b,c⟩:=n2 _ x hx;exact ⟨v,by rw[eN,aH hs,fa,lx,fU];exact a,b,c⟩
   rw[qH] at hx ⊢;rw[dR,hxl,fB iw] at hx;rw[dR,hXl,fB iw];by_cases q1:t<i*ie.size
   ·rw[aH q1,eN,aH q1] at hx;rw[aH q1,eN,aH q1];exact src t (by omega) x hx
   ·rw[aL q1,qH,hyl] at hx;rw[aL q1,qH,hYl];by_cases q2:t-i*ie.size<q*ie.size
    ·rw[aH q2] at hx;rw[aH q2];exact src2 _ q2 x hx
    ·rw[aL q2,fa] at hx;rw[aL q2,fa];exact src _ (by omega) x hx
  have uN:∀{h3:w'.heap[b']? =some (.cells iZ (Nat.div c 2) (0,0))},OR (g.bind new (b',o') (c'*ie.size) (Nat.div c 2)) w' new b' o' (.cells (Nat.div c 2) (zu ((p.2.drop off).take (n*ie.size)) (i*ie.size) ((p2.2.drop vq).take (q*ie.size)))):=λ{h3}=>
   Cells.mk' h3 (by rw[Gh.ye];exact hsz') (Gh.AQ _ _ _ _ _) λt x hx=>by
    let ⟨v,a,b,c⟩:=ayc t x hx;exact ⟨v,a,b,c.mono hle⟩
  have NS:VR (g.bind new (b',o') (c'*ie.size) (Nat.div c 2)) (.slice (some ⟨b',o',none⟩) (n+q) c') (.sl new 0 (n+q) (.u (Nat.div c 2))):=
   .sl (id:=new) (off:=0) (o:=o') (b:=b') (cap:=.u (Nat.div c 2)) (Gh.jf _ _ _ _ _) hnc' (λk hk=>by cases hk) (λe' he=>by
    cases he;refine ⟨Gh.AQ _ _ _ _ _,?_⟩;rw[Gh.ye];show 0+c'*g.sz (Nat.div c 2)<=_;rw[hE.size hie];omega)
  rcases hw with ⟨rfl,rfl,hw⟩|⟨rfl,rfl,hw⟩
  ·let ⟨t1,t2⟩:=h.rename (o':=.cells (Nat.div c 2) (zu ((p.2.drop off).take (n*ie.size)) (i*ie.size) ((p2.2.drop vq).take (q*ie.size)))) hn hf hρ hw.size hw.HN (uN (h3:=hw.heap)) hw.os hw.tape hw.output;exact ⟨_,_,rfl,NS,t1,t2,λk hk=>Gh.lH _ _ _ _ hk,λxY=>by cases xY⟩
  ·let ⟨k1,k2⟩:=h.kill id;let ⟨vs,a1,a2⟩:=gN.apK ayc;have hw':w'=World.alloc {w' with heap:=w.heap} (.cells iZ (Nat.div c 2)):=by
    show w'={w' with heap:=w.heap.push (.cells iZ (c / 2) (0,0))}
    rw[<-hw.heap]
   exact ⟨_,_,rfl,(k1.row hn (w0:={w' with heap:=w.heap}) ⟨rfl,hw.os,hw.tape,hw.output⟩ hw' a1 (λj v hv=>by rw[<-cA j];exact a2 j v hv) (by omega) NS).kill h⟩
def akz {c:Nat} {lS:dQ} (ho:qA E c h.hp.get h.nx aa=some (v,lS)):tK h.hp.get h.nx lS:=by
 unfold qA at ho;rw[bH] at ho;split at ho
 ·unfold PT at ho;split at ho
  ·cases ho;exact keys_nil
  ·rw[bH] at ho;split at ho
   ·cases ho;exact keys_nil
   ·let ⟨p,hp,ho⟩:=aq ho;let ⟨xs,hx,ho⟩:=aq ho;let ⟨hc,ho⟩:=aV ho;cases ho;exact xT (by rw[kU hp];simp)
  ·cases ho
 let ⟨ie,hie,ho⟩:=aq ho;rw[bH] at ho;split at ho
 ·unfold acv at ho;split at ho;rotate_left
  ·cases ho
  let ⟨i,j,p,ha,hb,hp,ho⟩:=pY ho;let ⟨hc,ho⟩:=aV ho;cases ho;exact xT (by rw[kU hp];simp)
 ·unfold abv at ho;split at ho;rotate_left
  ·cases ho
  let ⟨i,p,p2,ha,hp,hp2,ho⟩:=pY ho;let ⟨hc,ho⟩:=aV ho;cases ho;intro u hu;rcases cH.1 hu with rfl|hu
  ·exact .inr (by rw[kU hp];simp)
  ·rw[ez.1 hu];exact .inl rfl
def auZ (hb:Bd h) (hk:tK h.hp.get h.nx us):p9 h (alv h us):=by
 have f3:=air (h:=⟨h.hp,h.nx,[]⟩) (us:=us) hb hk;exact ⟨f3.nx,f3.bd,λz hz hn=>f3.lg z hz (λhc=>hn (ov.2 (.inl ⟨hc,hz⟩))),λz hz=>ov.2 (.inr hz),f3.dead⟩
def ack (h:Hs) (us:dQ):(alv h us).hp.get=gz h.hp.get us:=aiq ⟨h.hp,h.nx,[]⟩ us
def aky (hS:Ci E) {ca:aY}:Sound E (.call (.fn (.func k) fi ca) aa h) (Lu E k (fi++aa++ca) h):=by
 unfold Lu;cases hc:wu k E.wh with
 |none=>trivial
 |some c=>
  show Sound E _ (axg h (qA E c h.hp.get h.nx (fi++aa++ca)));cases ho:qA E c h.hp.get h.nx (fi++aa++ca) with
  |none=>trivial
  |some p=>
   let ⟨v,lS⟩:=p;refine N7 (λhb=>⟨auZ hb (akz ho),λm g w u us hE hr eV hu jL=> ?_⟩)
   cases hu with
   | @fn _ first eG _ _ pO qZ=>
   have qD:j8 g (first.toList++us++eG.toList) (fi++aa++ca):=(pO.append jL).append qZ
   have po:first++us.toArray++eG=(first.toList++us++eG.toList).toArray:=by apply uD;simp
   let ⟨qt,P5⟩:=Ws hE (hS.prim k c hc) hr (eV h.nx (dg _)) qD ho m;refine ⟨{target:=.fn (.func k) eG,args:=first++us.toArray},rfl,.inl ⟨k,first++us.toArray++eG,GL qt _ w,?_⟩⟩
   rw[po];refine CallsIn.mono P5 ?_;rintro e w' ⟨r,g',rfl,hp⟩;refine ⟨r,rfl,g',hp.val,by rw[ack];exact hp.hr,by rw[ack];exact hp.fr,λx hx=>hp.ro x (by omega),λx hx=> ?_⟩
   cases lS with
   |nil=>rw[hp.nil rfl];exact eV x hx
   |cons u lS=>
    have hx:h.nx+1<=x:=by
     have e:(alv h (u::lS)).nx=(Hs.lS ⟨h.hp,h.nx,[]⟩ (u::lS)).nx+1:=rfl;rw[e,Il] at hx;exact hx
    rw[hp.ro x (by omega)];exact eV x (by omega)
def acj {l:aY} (h:yb E k l=some v):l= []:=by
 cases l with
 |nil=>rfl
 |cons a l=>cases h
def alM (hS:Ci E) {ca:aY} (hd:yb E k (fi++aa++ca)=some v):Sound E (.call (.fn (.func k) fi ca) aa h) (.res v h):=by
 refine N7 (λhb=> ?_)
 have xY:=acj hd;obtain ⟨hfa,rfl⟩:=SX.1 xY;obtain ⟨rfl,rfl⟩:=SX.1 hfa;let ⟨qt,h4⟩:=hS.done k v hd;refine ⟨p9.refl hb,λm g w u us hE hr eV hu jL=> ?_⟩
 cases hu with
 | @fn _ first eG _ _ pO qZ=>
 have ef:first= #[]:=by
  generalize hz:first.toList=z at pO
  cases pO;simpa using hz
 have ec:eG= #[]:=by
  generalize hz:eG.toList=z at qZ;cases qZ;simpa using hz
 cases jL;subst ef;subst ec;refine ⟨{target:=.fn (.func k) #[],args:= #[]},rfl,.inl ⟨k,#[],GL qt #[] w,?_⟩⟩;refine CallsIn.mono (h4 m w) ?_;rintro e w' ⟨r,rfl,hv,hs⟩;let ⟨s1,s2⟩:=ajP hr hs;exact ⟨r,rfl,g,hv g,s1,s2,λ_ _=>rfl,eV⟩
section
variable {τ:Nat->Nat} {D:Nat->Prop} [DecidablePred D] {S:br}
end
structure acX (τ:Nat->Nat) (g g':Gh):Prop where
 η:g'.η=g.η
 sz:g'.sz=g.sz
 Z:∀id p,g.Z id=some p->g'.Z (τ id)=some p
 lim:∀id p,g.Z id=some p->g'.lim (τ id)=g.lim id
 et:∀id p,g.Z id=some p->g'.et (τ id)=g.et id
section
variable {τ:Nat->Nat}
mutual
def VR.push {g g':Gh} (hp:acX τ g g'):∀{v x},VR g v x->VR g' v (akq τ x)
 |_,_,.bool b=>.bool b
 |_,_,.int k e h=>.int k e (by rw[hp.η];exact h)
 |_,_,.str s=>.str s
 |_,_,.ptr h=>.ptr (hp.Z _ _ h)
 |_,_,.qe=>.qe
 |_,_,.sl h hn hc hl=>.sl (hp.Z _ _ h) hn hc (λe he=>by rw[hp.sz,hp.et _ _ h,hp.lim _ _ h];exact hl e he)
 |_,_,.sle=>.sle
 |_,_,.dE=>.dE
 |_,_,.mp h=>.mp (hp.Z _ _ h)
 |_,_,.mu=>.mu
 |_,_,.fn h1 h2=>.fn (h1.push hp) (h2.push hp)
 |_,_,.pd=>.pd
 |_,_,.agg h=>.agg (h.push hp)
 |_,_,.cS h=>.cS (h.push hp)
 |_,_,.undef v=>.undef v
def j8.push {g g':Gh} (hp:acX τ g g'):∀{v x},j8 g v x->j8 g' v (Cu τ x)
 |_,_,.nil=>.nil
 |_,_,.cons h ht=>.cons (h.push hp) (ht.push hp)
def gN.push {g g':Gh} (hp:acX τ g g'):∀{v x},gN g v x->gN g' v (Cu τ x)
 |_,_,.nil=>.nil
 |_,_,.cons h1 h ht=>.cons h1 (h.push hp) (ht.push hp)
end
def iI.push {g:Gh} (hp:acX τ g g'):∀{ms:List MapEntry} {xs:ji},iI g ms xs->iI g' ms (akr τ xs)
 |_,_,.nil=>.nil
 |_,_,.cons h ht=>.cons ⟨h.1.push hp,h.2.1.push hp,h.2.2⟩ (ht.push hp)
def OR.push {g:Gh} (hp:acX τ g g') {w:World} {id o:Nat} {x:SO} (hρ:g.Z id=some (b,o)) (h:OR g w id b o x) (hx:aEY x=true):OR g' w (τ id) b o (renO τ x):=by
 cases x with
 |cells e cs=>
  let ⟨⟨cur,h1,h0,vs,h2,h3⟩,h4⟩:=h;exact ⟨⟨cur,h1,by rw[hp.lim _ _ hρ];exact h0,vs,h2.push hp,h3⟩,(hp.et _ _ hρ).trans h4⟩
 |map es c=>let ⟨ms,h1,h2⟩:=h;exact ⟨ms,h1,h2.push hp⟩
 |nF s pos=>cases hx
 |mapIter mp since seen last=>cases hx
 |dfr=>cases hx
 |ro cs=>cases hx
end
def JO (a b:ByteArray):Lib.compareBytes a.data.toList b.data.toList=EZ a b:=by
 have key:∀(l m:List UInt8),Lib.compareBytes l m=if AP l m=true then -1 else if sg l m=true then 0 else 1:=by
  intro l;induction l with
  |nil=>intro m;cases m<;>simp[Lib.compareBytes,AP,sg]
  |cons x l ih=>
   intro m;cases m with
   |nil=>simp[Lib.compareBytes,AP,sg]
   |cons y m=>
    unfold Lib.compareBytes AP sg;rw[ih m,bH,bH,ble_eq,beq_eq];have h1:(x<y)↔x.toNat+1<=y.toNat:=by rw[UInt8.lt_iff_toNat_lt];omega
    have h2:(y<x)↔y.toNat<x.toNat:=UInt8.lt_iff_toNat_lt;by_cases hxy:x<y
    ·simp[hxy,h1.1 hxy]
    ·by_cases hyx:y<x
     ·have a1:¬(x.toNat+1<=y.toNat):=λh=>hxy (h1.2 h)
      have a2:¬(x.toNat=y.toNat):=λh=>by have:=h2.1 hyx;omega
      simp[hxy,hyx,a1,a2]
     ·have a1:¬(x.toNat+1<=y.toNat):=λh=>hxy (h1.2 h)
      have a3:¬(y.toNat<x.toNat):=λh=>hyx (h2.2 h)
      have a2:x.toNat=y.toNat:=by omega
      have a4:¬(y.toNat+1<=y.toNat):=by omega
      simp[hxy,hyx,a2,a4]
 rw[key];unfold EZ;rw[bH,bH]
def arq (hS:Ci E) {ca:aY} (sX:E.fn.get k=some fn) (oo:fn.body=none):Sound E (.call (.fn (.func k) fi ca) aa h) (avc fn (fi++aa++ca) h):=by
 generalize hl:fi++aa++ca=l;unfold avc;split;rotate_left
 ·trivial
 rename_i x y;split;rotate_left
 ·trivial
 rename_i s1 hs1;split;rotate_left
 ·trivial
 rename_i s2 hs2;obtain rfl:=mV hs1;obtain rfl:=mV hs2;rw[bH];split;rotate_left
 ·trivial
 rename_i P1;refine N7 (λhb=>⟨p9.refl hb,λm g w u us hE hr eV hu jL=> ?_⟩)
 cases hu with
 | @fn _ first eG _ _ pO qZ=>
 have qD:j8 g (first.toList++us++eG.toList) [.str s1,.str s2]:=by rw[<-hl];exact (pO.append jL).append qZ
 have po:first++us.toArray++eG=(first.toList++us++eG.toList).toArray:=by apply uD;simp
 let ⟨v1,v2,e,h1,h2⟩:=D7 qD;rw[e] at po;cases h1;cases h2;let ⟨e1,e2⟩:=hS.ext k fn sX oo P1;refine ⟨{target:=.fn (.func k) eG,args:=first++us.toArray},rfl,.inr (.inr ⟨.int .i64 (Lib.compareBytes s1.data.toList s2.data.toList),w,?_,_,rfl,g,.int _ _ ?_,hr,Fr.refl _ _ _,λ_ _=>rfl,eV⟩)⟩
 ·show (callFunc k (first++us.toArray++eG)).run E.P w=_
  rw[po,run_callFunc_extern (hS.fn k fn sX).1 (by
   have:fn.name= "internal/bytealg.abigen_runtime_cmpstring" :=by simpa using P1
   rw[this];decide) (by rw[oo];rfl) e1 e2,Lib.run_compareString]
  rfl
 ·rw[JO];rfl
def ON (hS:Ci E) (jH:∀j,Sound E j (rec j)) (fv:SV) (aa:aY) (h:Hs):Sound E (.call fv aa h) (Qp fv E rec aa h):=by
 cases fv with
 |fn f fi ca=>
  cases f with
  |func k=>
   show Sound E _ (@Option.rec SV (λ_=>Out) (auW E rec k (E.fn.get k) (fi++aa++ca) h) (λv=>.res v h) (yb E k (fi++aa++ca)))
   cases hd:yb E k (fi++aa++ca) with
   |some v=>exact alM hS hd
   |none=>
    show Sound E _ (auW E rec k (E.fn.get k) (fi++aa++ca) h);cases sX:E.fn.get k with
    |none=>exact aky hS
    |some fn=>
     show Sound E _ (acE E rec k fn (fi++aa++ca) h);unfold acE;cases oo:fn.body with
     |none=>exact arq hS sX oo
     |some c=>
      show Sound E _ (aQ (Nat.ble (fi++aa++ca).length fn.ntmps) (aQ (yQ fn.name) (.fail "") (aax E rec fn h.nx h.lg (rec (.code fn.ntmps c (setArgs (fi++aa++ca) 0 .nil) [] ⟨h.hp,h.nx,[]⟩)))) (.fail ""));rw[bH,bH];split;rotate_left
      ·trivial
      rename_i hlen;split
      ·trivial
      rename_i Jf;exact arn hS jH sX oo (λhc=>Jf (by rw[hc];decide)) ((bV _ _).1 hlen)
  |_=>trivial
 |_=>trivial
def Wj (hS:Ci E):∀(n:Nat) (j:lJ),Sound E j (run E n j)
 |0,j=>by cases j<;>trivial
 |n+1,j=>by
  have ih:=Wj hS n;show Sound E j (step E (run E n) j);cases j with
  |code nt c tm mk h=>exact OM hS ih nt c tm mk h
  |ops nt all l tm mk h=>exact S7 ih nt all l tm mk h
  |draw nt W all base i M prev l tm h=>exact OL ih nt W all base i M prev l tm h
  |call fv aa h=>exact ON hS ih fv aa h
end
section
variable {E:Env} {g:Gh} {f:Hf} {w:World}
variable {n:Nat} {P:Program}
def avr (g:Gh) (w:World):HR g (Tr.nil:Hp).get w:=⟨λid o h=>(by cases h),λi j x y b c d h=>(by cases h)⟩
def akc (hS:Ci E) {l:List Rs} (ln:run E n (.call (.fn (.func k) [] []) aa ⟨.nil,0,[]⟩)= .iA l) (qt:Vu E (.fn (.func k) [] [])=true) (hE:dW E g) (hρ:∀x,g.Z x=none) {us:fu} (jL:j8 g us aa) (m:Nat) (w:World):CallsIn Fence.wide m E.P k us.toArray w λe w'=>∃r∈l,∃u g',e=Qi r.fR u/\VR g' u r.v/\HR g' r.h.hp.get w'/\Fr g (λ_=>none) w g' r.h.hp.get w':=by
 have hs:=Wj hS n (.call (.fn (.func k) [] []) aa ⟨.nil,0,[]⟩);rw[ln] at hs;have hb:Bd ⟨.nil,0,[]⟩:=λx _=>rfl
 let ⟨_,_,IG⟩:=(show Bd ⟨.nil,0,[]⟩->_ from hs) hb;let ⟨k',fi,ca,fn,e1,sX,oo⟩:=Jx qt;cases e1;let ⟨d,xl,HV⟩:=IG m g w (.func (.func k) #[] #[]) us hE (avr g w) (λx _=>hρ x) (.fn .nil .nil) jL
 have hd:d={target:=.fn (.func k) #[],args:= #[]++us.toArray}:=by
  rw[IW] at xl;cases xl;rfl
 subst hd;have Ak:∀(args:ig) (w:World),(invoke (.fn (.func k) #[]) args).run E.P w=(callFunc k (args++ #[])).run E.P w:=λ_ _=>rfl
 rcases pK (hS.fn k fn sX).1 oo (#[]++us.toArray++ #[]) w with ⟨hc,_⟩|hc
 ·rcases HV with ⟨k',JS,q1,q2⟩|⟨l,k',t',JS,b',q1,_⟩|⟨r,w',q1,_⟩<;>(rw[Ak,hc] at q1;cases q1)
 ·rcases HV with ⟨k',JS,q1,q2⟩|⟨l,k',t',JS,b',q1,_⟩|⟨r,w',q1,_⟩
  ·rw[Ak,hc] at q1;cases q1;have e: #[]++us.toArray++ #[]=us.toArray:=by simp
   rw[e] at q2;refine CallsIn.mono q2 ?_;rintro e w' ⟨r,hr,u,g',rfl,h1,h2,h3,_,_⟩;exact ⟨r,hr,u,g',rfl,h1,h2,h3⟩
  ·rw[Ak,hc] at q1;cases q1
  ·rw[Ak,hc] at q1;cases q1
def gh0 (P:Program) (η:Nat->Int):Gh:=⟨η,P.cellsOf,λ_=>none,λ_=>0,λ_=>0,λ_=>none⟩
def Fr.old0 {g:Gh} {h':Hf} {w:World} (h:Fr g (λ_=>none) w g' h' w'):∀b,b<w.heap.size->w'.heap[b]? =w.heap[b]? :=
 λb hb=>h.old b hb (λ⟨id,o,c,h1,_⟩=>by cases h1)
def Fr.still {g:Gh} {h':Hf} {w:World} (h:Fr g (λ_=>none) w g' h' w'):BY w w':=⟨h.os,h.tape,h.output,h.size,h.old0⟩
def avQ (o:Out):Bool:=match o with| .iA l=>l.all (λr=> !r.fR&&(match r.v with| .bool b=>b|_=>false))|_=>false
def avx (hS:Ci E) (hE:dW E (gh0 E.P λ_=>0)) (ln:avQ (run E n (.call (.fn (.func k) [] []) [] ⟨.nil,0,[]⟩))=true) (qt:Vu E (.fn (.func k) [] [])=true) (Jf:∀fn,E.fn.get k=some fn->yQ fn.name=false):J7 E.P k (.bool true):=by
 unfold avQ at ln;split at ln
 ·rename_i l hl;let ⟨k',fi,ca,fn,e1,sX,oo⟩:=Jx qt;cases e1;refine ⟨⟨fn,(hS.fn k fn sX).1,oo,λhc=>by have:=Jf fn sX;rw[hc] at this;revert this;decide⟩,λm w=> ?_⟩
  refine CallsIn.mono (akc hS hl qt hE (λ_=>rfl) .nil m w) ?_
  rintro e w' ⟨r,hr,u,g',rfl,h1,h2,h3⟩;have hb:=iJ.1 ln r hr;rw[bF] at hb;let ⟨Jt,EO⟩:=hb;have hp:r.fR=false:=by simpa using Jt
  have hv:r.v= .bool true:=by
   split at EO
   ·rename_i e;rw[e,EO]
   ·cases EO
  rw[hp];rw[hv] at h1;refine ⟨u,rfl,λg=> ?_,h3.still⟩
  cases h1;exact .bool true
 ·cases ln
def p7 {J:Type} (Q:Nat->J->Prop):Tr J->(Nat->Nat)->Prop
 | .nil,_=>True
 | .node l v r,Y=>(match v with|none=>True|some x=>Q (Y 0) x)/\p7 Q l (λj=>Y (2*j+1))/\p7 Q r (λj=>Y (2*j+2))
def p7.get {J:Type} {Q:Nat->J->Prop}:∀{t:Tr J} {Y:Nat->Nat},p7 Q t Y->∀i x,t.get i=some x->Q (Y i) x
 | .nil,_,_,i,x,h=>by cases h
 | .node l v r,Y,⟨h1,h2,h3⟩,i,x,h=>by
  rw[Tr.BI] at h;split at h
  ·rename_i e;subst e;subst h;exact h1
  ·split at h
   ·rename_i e1 e2;have:=p7.get h2 _ x h;have e:2*(i / 2)+1=i:=by omega
    simp only[e] at this;exact this
   ·rename_i e1 e2;have:=p7.get h3 _ x h;have e:2*(i / 2-1)+2=i:=by omega
    simp only[e] at this;exact this
def S4:TypeDesc->UD
 | .bool=>.bool
 | .int k=>.int k
 | .string=>.string
 | .pointer _=>.pointer
 | .slice e=>.slice e
 | .array n e=>.array n e
 | .map k e=>.map k e
 | .struct fs=>.struct (fs.toList.map λf=>FL.mk f.type f.offset (!(f.name== "_")))
 | .func _ _ _=>.func
 | .interface _=>.interface
 |_=>.other
def PX (P:Program):List Field->Bool
 | []=>true
 |f::fs=>(P.info? f.type).isSome&&PX P fs
def aKR (P:Program):TypeDesc->Bool
 | .struct fs=>PX P fs.toList
 | .bool| .int _| .string| .pointer _| .slice _| .array _ _| .map _ _| .func _ _ _| .interface _=>true
 |_=>false
def QC:fu->Bool
 | []=>true
 |v::vs=>v.oneCell'&&QC vs
def abq:Value->Bool
 | .agg _=>true
 |_=>false
def awD (agg:Bool) (size:Nat) (z:Value):Bool:=QC z.cells.toList&&aQ agg (abq z&&Nat.beq z.cells.toList.length size) z.oneCell'
def ajK (P:Program) (t:TypeId):Option TI:=
 bT (P.underlying t) (P.info? t) λd f=>az f.zero λz=>aQ (aKR P d&&awD (l5 (S4 d)) f.size z) (some ⟨S4 d,f.size,f.bytes,rM z.cells.toList,f.comparable⟩) none
def M8 {P:Program}:∀{fs:List Field},PX P fs=true->∀f∈fs,(P.info? f.type).isSome=true
 | [],_,f,hf=>by simp at hf
 |x::fs,h,f,hf=>by
  unfold PX at h;rw[bF] at h;rcases cH.1 hf with rfl|hf
  ·exact h.1
  ·exact M8 h.2 f hf
def QB (g:Gh):∀{vs:fu},QC vs=true->gN g vs (rM vs)
 | [],_=>.nil
 |v::vs,h=>by
  unfold QC at h;rw[bF] at h;exact .cons h.1 (wH g v) (QB g h.2)
def CT:∀(vs:fu),(rM vs).length=vs.length
 | []=>rfl
 |v::vs=>by show (ue v::rM vs).length=_;simp[CT vs]
def aoj {i:TI} (h:ajK P t=some i):BX P t i:=by
 let ⟨d,fi,hd,hf,h⟩:=bp h;let ⟨z,hz,h⟩:=aq h;let ⟨hc,h⟩:=aV h;cases h;rw[bF] at hc;let ⟨hdb,zQ⟩:=hc;unfold awD at zQ;rw[bF] at zQ;let ⟨ha,zQ⟩:=zQ;refine ⟨?_,fi,z,hf,rfl,rfl,rfl,hz,⟨λg=>QB g ha,λBF=> ?_,λBF=> ?_⟩,λBF=> ?_⟩
 ·show J8 P t (S4 d);cases d<;>first
   |exact hd
   |exact ⟨_,hd⟩
   |exact ⟨_,_,_,hd⟩
   |(
    refine ⟨_,hd,?_,M8 hdb⟩
    refine DV λf _=> ?_
    by_cases hn:f.name= "_" <;>simp[hn])
   |(cases hdb;done)
 ·have BF:l5 (S4 d)=true:=BF;rw[BF] at zQ;have zQ:(abq z&&Nat.beq z.cells.toList.length fi.size)=true:=zQ;rw[bF] at zQ;cases z<;>first|exact ⟨_,rfl⟩|(cases zQ.1;done)
 ·have BF:l5 (S4 d)=false:=BF;rw[BF] at zQ;exact zQ
 ·have BF:l5 (S4 d)=true:=BF;rw[BF] at zQ;have zQ:(abq z&&Nat.beq z.cells.toList.length fi.size)=true:=zQ;rw[bF] at zQ;show (rM z.cells.toList).length=fi.size;rw[CT];exact (beq_iff _ _).1 zQ.2
end
end Go.bX
namespace Go.bX
variable {wh:List (Nat×Nat)} {Du stop:br} {fn':Tr Func} {η:Nat->Int}
section
def Bf (fn:Func):Bool:=fn.body.isSome|| !(fn.name== "internal/bytealg.abigen_runtime_cmpstring")
def aNh (P:Program) (k:Nat) (fn:Func):Prop:=P.funcs[k]? =some fn/\XE fn=true/\(Bf fn=true\/(Extern.findNext fn=none/\Extern.find fn=some Extern.BytealgCompare.compare))
def aNg (P:Program) (t:Nat) (i:TI):Prop:=ajK P t=some i
structure Mb (P:Program) (ty:Tr TI) (fn:Tr Func):Prop where
 ty:p7 (aNg P) ty id
 fn:p7 (aNh P) fn id
 mix:P.follows .mixedOrders=true
variable {P:Program} {ty:Tr TI} {fn:Tr Func}
def Mb.envS (h:Mb P ty fn) {lt eq:List (SI×SI×Bool)} {done:List (Nat×SV)} {join:br} (hd:∀k v,alu k done=some v->J7 P k v) (hs:∀k f,fn'.get k=some f->fn.get k=some f) (hp:∀k c,wu k wh=some c->Au ⟨P,ty,fn',lt,eq,done,join,wh,Du,stop⟩ k c):Ci ⟨P,ty,fn',lt,eq,done,join,wh,Du,stop⟩:=by
 refine ⟨λk fn hk=> ?_,λk fn hk hb hn=> ?_,h.mix,λk v hk=>hd k v hk,hp⟩
 ·let ⟨h1,h2,_⟩:=p7.get h.fn k fn (hs k fn hk);exact ⟨h1,h2⟩
 ·let ⟨_,_,h3⟩:=p7.get h.fn k fn (hs k fn hk);rcases h3 with h3|h3
  ·unfold Bf at h3;rw[hb,hn] at h3;cases h3
  ·exact h3
def Mb.ayO (h:Mb P ty fn) {lt eq:List (SI×SI×Bool)} {done:List (Nat×SV)} {join:br} (cY:∀a b r,(a,b,r)∈lt->decide (a.ev η<b.ev η)=r) (heq:∀a b r,(a,b,r)∈eq->decide (a.ev η=b.ev η)=r):
  dW ⟨P,ty,fn,lt,eq,done,join,wh,Du,stop⟩ (gh0 P η):=
 ⟨λt i hi=>aoj (p7.get h.ty t i hi),λf x hx=>(p7.get h.fn f x hx).1,cY,heq,h.mix,λ_=>rfl⟩
def why (o:Out):String:=match o with| .iA [⟨false,.bool b,_⟩]=>(match b with|true=> "true" |false=> "false")| .iA [_]=> "res" | .iA _=> "ress" | .fail s=>s|_=> "other"
end
end Go.bX
namespace Go.bX
open Go.RowKit

end Go.bX
namespace Go.bX
variable {P:Program} {fe:Func}
def alt {J:Type} (l:List J):Bool->List J:= @List.rec J (λ_=>Bool->List J) (λ_=> []) (λx _ ih b=>aQ b (x::ih false) (ih true)) l
def Y2 {J:Type} (d:Nat):List (Option J)->Tr J:= @Nat.rec (λ_=>List (Option J)->Tr J) (λ_=>.nil) (λ_ ih l=> @List.rec (Option J) (λ_=>Tr J) .nil (λx xs _=>.node (ih (alt xs true)) x (ih (alt xs false))) l) d
def Ma {J:Type}:∀(l:List J) (j:Nat),(alt l true)[j]? =l[2*j]? /\(alt l false)[j]? =l[2*j+1]?
 | [],j=>⟨by simp[alt],by simp[alt]⟩
 |x::l,j=>by
  have h1:alt (x::l) true=x::alt l false:=rfl;have h2:alt (x::l) false=alt l true:=rfl;rw[h1,h2];constructor
  ·cases j with
   |zero=>rfl
   |succ j=>rw[rT,(Ma l j).2,show 2*(j+1)=(2*j+1)+1 by omega,rT]
  ·rw[(Ma l j).1,rT]
def F3 {J:Type} {Q:Nat->J->Prop}:∀(d:Nat) (l:List (Option J)) (Y:Nat->Nat),(∀i x,l[i]? =some (some x)->Q (Y i) x)->p7 Q (Y2 d l) Y
 |0,_,_,_=>trivial
 |d+1,[],_,_=>trivial
 |d+1,x::xs,Y,H=>by
  show p7 Q (.node (Y2 d (alt xs true)) x (Y2 d (alt xs false))) Y;unfold p7;refine ⟨?_,F3 d _ _ λi y h=> ?_,F3 d _ _ λi y h=> ?_⟩
  ·cases x with
   |none=>trivial
   |some x=>exact H 0 x rfl
  ·rw[(Ma xs i).1] at h;exact H (2*i+1) y (by rw[rT];exact h)
  ·rw[(Ma xs i).2] at h;exact H (2*i+2) y (by rw[show 2*i+2=(2*i+1)+1 from rfl,rT];exact h)
def awH (P:Program) (n:Nat):Tr TI:=Y2 10 ((List.range n).map (ajK P))
def ayg (P:Program):Tr Func:=Y2 10 (P.funcs.toList.map some)
def aJg (e:Nat) (l:List Bool):Bool:= @List.rec Bool (λ_=>Nat->Bool) (λ_=>true) (λb _ ih k=>aQ (b||Nat.beq k e) (ih (k+1)) false) l 0
def QD {e:Nat}:∀(l:List Bool) (k i:Nat),(@List.rec Bool (λ_=>Nat->Bool) (λ_=>true) (λb _ ih k=>aQ (b||Nat.beq k e) (ih (k+1)) false) l k)=true->l[i]? =some false->k+i=e
 | [],k,i,_,h=>by simp at h
 |b::l,k,i,h,hi=>by
  have h:aQ (b||Nat.beq k e) (@List.rec Bool (λ_=>Nat->Bool) (λ_=>true) (λb _ ih k=>aQ (b||Nat.beq k e) (ih (k+1)) false) l (k+1)) false=true:=h
  cases i with
  |zero=>
   have:b=false:=by simpa using hi
   subst this;cases hk:Nat.beq k e with
   |true=>exact Nat.eq_of_beq_eq_true hk
   |false=>rw[hk] at h;cases h
  |succ i=>
   cases hb:(b||Nat.beq k e) with
   |false=>rw[hb] at h;cases h
   |true=>
    rw[hb] at h;have:=QD l (k+1) i h (by simpa using hi)
    omega
def aDn (n e:Nat) (h0:(P.funcs.toList.all λf=>XE f)=true) (h1:aJg e (P.funcs.toList.map Bf)=true) (he:P.funcs[e]? =some fe) (h2:Extern.findNext fe=none) (h3:Extern.find fe=some Extern.BytealgCompare.compare) (hm:P.follows .mixedOrders=true):Mb P (awH P n) (ayg P):=by
 refine ⟨F3 _ _ _ λi x h=> ?_,F3 _ _ _ λi x h=> ?_,hm⟩
 ·rw[lz] at h;cases hr:(List.range n)[i]? with
  |none=>rw[hr] at h;cases h
  |some j=>
   rw[hr] at h;have hj:ajK P j=some x:=by simpa using h
   have:=bY.1 hr;let ⟨h1,h2⟩:=this;have e:i=j:=by simpa using h2
   subst e;exact hj
 ·rw[lz] at h;cases hr:P.funcs.toList[i]? with
  |none=>rw[hr] at h;cases h
  |some f=>
   rw[hr] at h;have hf:f=x:=by simpa using h
   subst hf;have hm:f∈P.funcs.toList:=cT hr;have hp:P.funcs[i]? =some f:=by simpa using hr
   refine ⟨hp,iJ.1 h0 f hm,?_⟩;cases hb:Bf f with
   |true=>exact .inl rfl
   |false=>
    have:=QD (e:=e) (P.funcs.toList.map Bf) 0 i h1 (by rw[lz,hr];simp[hb])
    have ei:i=e:=by omega
    subst ei;rw[hp] at he;cases he;exact .inr ⟨h2,h3⟩
end Go.bX
section
namespace Go.bX
open Go.RowKit
variable {x y c:Code} {b:Bool} {i new nx' nx:Nat} {o:Oper} {v:SV} {us:dQ} {k:FuncId} {fn:Func} {H:Hf}
structure MS where
 T:Tf
 H:Hf
 nx:Nat
structure Now (E:Env) (nt:Nat) (g:Gh) (m:MS) (a:Act) (w:World):Prop where
 env:dW E g
 fr:FR g nt m.T a.tmps
 hr:HR g m.H w
 fresh:∀x,m.nx<=x->g.Z x=none
structure Hb (g:Gh) (m:MS) (w:World) (a:Act) (g':Gh) (m':MS) (w':World) (a':Act):Prop where
 fr:Fr g m.H w g' m'.H w'
 df:a'.defers=a.defers
 ro:∀x,x<m.nx->g'.Z x=g.Z x
 nx:m.nx<=m'.nx
variable {E:Env} {nt:Nat} {g g1 g2:Gh} {m m1 m2:MS} {a a1 a2:Act} {w w1 w2:World} {e:Ex}
def Hb.refl:Hb g m w a g m w a:=⟨Fr.refl _ _ _,rfl,λ_ _=>rfl,dg _⟩
def Hb.trans (h:Hb g m w a g1 m1 w1 a1) (k:Hb g1 m1 w1 a1 g2 m2 w2 a2):Hb g m w a g2 m2 w2 a2:=
 ⟨h.fr.trans k.fr,k.df.trans h.df,λx hx=>(k.ro x (mC hx h.nx)).trans (h.ro x hx),jj h.nx k.nx⟩
def jN (E:Env) (nt:Nat) (c:Code) (m:MS) (e:Ex) (m':MS):Prop:=codeOk c=true->∀(ro:bP) (k:Nat) (g:Gh) (a:Act) (w:World) (Q:Exit->Act->World->Prop),Now E nt g m a w->
 (∀g' a' w' x,ExR g' e x->Now E nt g' m' a' w'->Hb g m w a g' m' w' a'->Q x a' w')->wpX (ow ro) k E.P c Q a w
namespace jN
def skip:jN E nt .skip m .normal m:=λ_ _ _ _ _ _ _ n h=>wpIn_skip (h _ _ _ _ .normal n .refl)
def exit {id:Nat}:jN E nt (.exit id) m (.exit id) m:=λ_ _ _ _ _ _ _ n h=>wpIn_exit (h _ _ _ _ (.exit id) n .refl)
def ret:jN E nt .ret m .ret m:=λ_ _ _ _ _ _ _ n h=>wpIn_ret (h _ _ _ _ .ret n .refl)
def seq (h1:jN E nt x m .normal m1) (h2:jN E nt y m1 e m2):jN E nt (.seq x y) m e m2:=λok ro k g a w Q n h=>
 wpIn_seq (nV (h1 (okL ok) ro k g a w _ n λg1 a1 w1 x hx n1 t1=>by
  cases hx;exact nV (h2 (okR ok) ro k g1 a1 w1 Q n1 λg2 a2 w2 y hy n2 t2=>h g2 a2 w2 y hy n2 (t1.trans t2))))
def aEN (he:vu e=false) (h1:jN E nt x m e m1):jN E nt (.seq x y) m e m1:=λok ro k g a w Q n h=>
 wpIn_seq (nV (h1 (okL ok) ro k g a w _ n λg1 a1 w1 x hx n1 t1=>by
  have:=h g1 a1 w1 x hx n1 t1;cases hx<;>first|exact this|cases he))
def cond {c:Operand} (hc:cE m.T c=some (.bool b)) (h1:jN E nt (aQ b x y) m e m1):jN E nt (.cond c x y) m e m1:=λok ro k g a w Q n h=>by
 have hv:a.eval c= .bool b:=by
  have:=ot n.fr hc;generalize a.eval c=v at this;cases this;rfl
 have ok:(codeOk x&&codeOk y)=true:=ok;rw[bF] at ok;cases b
 ·exact wpIn_cond_false hv (nV (h1 ok.2 ro k g a w Q n h))
 ·exact wpIn_cond_true hv (nV (h1 ok.1 ro k g a w Q n h))
def block {id:Nat} (h1:jN E nt c m e m1):jN E nt (.block id c) m (leave id e) m1:=λok ro k g a w Q n h=>
 wpIn_block (nV (h1 ok ro k g a w _ n λg1 a1 w1 x hx n1 t1=>by
  have key:∀y,ExR g1 (leave id e) y->Q y a1 w1:=λy hy=>h g1 a1 w1 y hy n1 t1
  cases hx with
  |normal=>exact key _ .normal
  |ret=>exact key _ .ret
  |fR hv=>exact key _ (.fR hv)
  |exit i=>
   rw[PN] at key;show (if i=id then Q .normal a1 w1 else Q (.exit i) a1 w1)
   split
   ·rename_i hi;rw[aH hi] at key;exact key _ .normal
   ·rename_i hi;rw[aL hi] at key;exact key _ (.exit i)))
def loop (h1:jN E nt c m .normal m1) (h2:jN E nt (.loop c) m1 e m2):jN E nt (.loop c) m e m2:=λok ro k g a w Q n h=>
 zp (nV (h1 ok ro k g a w _ n λg1 a1 w1 x hx n1 t1=>by
  cases hx;exact h2 ok ro k g1 a1 w1 Q n1 λg2 a2 w2 y hy n2 t2=>h g2 a2 w2 y hy n2 (t1.trans t2)))
def aCd (he:vu e=false) (h1:jN E nt c m e m1):jN E nt (.loop c) m e m1:=λok ro k g a w Q n h=>
 zp (nV (h1 ok ro k g a w _ n λg1 a1 w1 x hx n1 t1=>by
  have:=h g1 a1 w1 x hx n1 t1;cases hx<;>first|exact this|cases he))
end jN
structure Sr1 where
 v:SV
 D:Nat->Bool
 H:Hf
 need:Nat->Prop
 frp:Nat->Prop
 newp:Nat->Prop
structure wU (E:Env) (nt:Nat) (ops:dF) (i:Nat) (o:Oper) (m:MS) (r:Sr1) (m':MS):Prop where
 st:∀ro,vj E ro nt ops i o m.T r.need m.H r.frp r.newp r.v r.D r.H
 T:m'.T=jk m.T o.dst r.v
 H:m'.H=kO r.D r.H m.H
 nx:m.nx<=m'.nx
def J0 (E:Env) (nt:Nat) (ops:dF) (i:Nat) (m m':MS):Prop:=∀(ro:bP) (k:Nat) (g:Gh) (a:Act) (w:World) (Q:Exit->Act->World->Prop),Now E nt g m a w->
 (∀g' a' w',Now E nt g' m' a' w'->Hb g m w a g' m' w' a'->Q .normal a' w')->wpOpsIn (ow ro) k E.P ops Q (List.range' i (ops.size-i)) a w
def J0.nil {ops:dF}:J0 E nt ops ops.size m m:=λro k g a w Q n h=>by
 rw[nT];exact h g a w n .refl
def J0.cons {ops:dF} {i:Nat} {o:Oper} {r:Sr1} (hi:ops[i]? =some o) (h1:wU E nt ops i o m r m1) (hf:∀x,r.frp x->m.nx<=x) (hn:∀x,r.newp x->m.nx<=x/\x<m1.nx) (h2:J0 E nt ops (i+1) m1 m2):J0 E nt ops i m m2:=λro k g a w Q n h=>by
 have cY:i<ops.size:=by
  by_cases hc:i<ops.size
  ·exact hc
  ·rw[OA (by omega)] at hi;cases hi
 rw[show ops.size-i=(ops.size-(i+1))+1 by omega,yC,wpOpsIn_cons]
 refine h1.st ro k g m.H m.T a w _ Q n.env n.fr n.hr (λ_ _=>rfl) (λ_ _=>rfl) (λx hx=>n.fresh x (hf x hx)) λv w' g' q1 q2 q3 q4=> ?_
 rw[<-h1.T] at q1;rw[<-h1.H] at q2 q3;have h1n:=h1.nx;refine h2 ro k g' (a.put o.dst v) w' Q ⟨n.env.mono q3.le,q1,q2,λx hx=> ?_⟩ λg2 a2 w2 n2 t2=>h g2 a2 w2 n2 (Hb.trans ⟨q3,put_defers _ _ _,λx hx=>q4 x λhc=> ?_,h1n⟩ t2)
 ·rw[q4 x (λhc=>by have:=hn x hc;omega)]
  exact n.fresh x (by omega)
 ·have:=hn x hc;omega
def jN.region {id:Nat} {ops:dF} (h1:J0 E nt ops 0 m m1):jN E nt (.region id ops false) m .normal m1:=λok ro k g a w Q n h=>wpIn_region (by
 have:=h1 ro k g a w Q n λg' a' w' n' t'=>h g' a' w' _ .normal n' t'
 simpa[Oz] using this)
def wU.op {ops:dF} (hi:ops[i]? =some o) (hw:gw ops.toList o m.T=some true) (hd:kY nt o.dst=true) (ho:qT E o.op m.T m.H new=some (v,us)) (hH:m.H new=none) (hn:m.nx<=nx'):
  wU E nt ops i o m ⟨v,ud us new,gz m.H us,λx=>x∈pB o.op m.T,λx=>x=new,λx=>x=new/\us≠ []⟩ ⟨jk m.T o.dst v,gz m.H us,nx'⟩:=by
 refine ⟨λro=>Dn hi hw hd ho hH (λx=>by simp[ud]) (GZ ho),rfl,?_,hn⟩
 funext x;show gz m.H us x=kO (ud us new) (gz m.H us) m.H x;unfold kO ud;by_cases h1:x∈us.map (·.1)
 ·rw[aH (by simp only[jX];exact .inl h1)]
 ·rw[mm h1];split<;>rfl
def wU.skip {ops:dF} (hi:ops[i]? =some o) (hw:gw ops.toList o m.T=some false) (hd:kY nt o.dst=true) (hH:m.H new=none):
  wU E nt ops i o m ⟨.cS [],λx=>decide (x=new),m.H,λ_=>False,λx=>x=new,λ_=>False⟩ ⟨jk m.T o.dst (.cS []),m.H,m.nx⟩:=by
 refine ⟨λro=>step_skip hi hw hd hH (λx=>by simp),rfl,?_,dg _⟩
 funext x;show m.H x=kO _ m.H m.H x;unfold kO;split<;>rfl
class Hw (E:Env):Prop where
 fn:∀k fn,E.fn.get k=some fn->E.P.funcs[k]? =some fn/\XE fn=true
def jN.IG [hS:Hw E] {fi aa ca vs:aY} (sX:E.fn.get k=some fn) (oo:fn.body=some c) (Jf:yQ fn.name=false) (hlen:(fi++aa++ca).length<=fn.ntmps) (he:LW e=some none) (h1:jN E fn.ntmps c ⟨(setArgs (fi++aa++ca) 0 .nil).get,H,nx⟩ e m1) (hr:sy E m1.T m1.H fn.results.toList=some vs):oC E false (.fn (.func k) fi ca) aa H nx (oneOf vs) m1.H m1.nx:=λm g w u us hE hhr eV hu jL=>by
 cases hu with
 | @fn _ first eG _ _ pO qZ=>
 obtain ⟨hPf,js⟩:=hS.fn k fn sX;have qD:j8 g (first.toList++us++eG.toList) (fi++aa++ca):=(pO.append jL).append qZ
 have po:first++us.toArray++eG=(first.toList++us++eG.toList).toArray:=by apply uD;simp
 have auC:codeOk c=true:=by
  have js: @Option.rec Code (λ_=>Bool) true codeOk fn.body=true:=js
  rw[oo] at js;exact js
 refine ⟨{target:=.fn (.func k) eG,args:=first++us.toArray},rfl,.inl ⟨k,first++us.toArray++eG,?_,?_⟩⟩
 ·show (callFunc k (first++us.toArray++eG)).run E.P w=_
  rcases pK hPf (by rw[oo];rfl) (first++us.toArray++eG) w with ⟨_,hc⟩|hc
  ·rw[hc] at Jf;exact absurd Jf (by decide)
  ·exact hc
 rw[po];refine callsIn_of_wp_marks (F:=Fence.wide) hPf oo trivial (nV (F:=ow none) ?_);refine h1 auC none m g {tmps:=_,defers:= []} w _ ⟨hE,FR.args qD hlen,hhr,eV⟩ λg1 a1 w1 x hx n1 t1=> ?_
 have fin:LeavesInM Fence.wide m E.P fn a1.tmps (λe w'=>∃r,e=Qi false r/\∃g',VR g' r (oneOf vs)/\HR g' m1.H w'/\Fr g H w g' m1.H w'/\(∀x,x<nx->g'.Z x=g.Z x)/\∀x,m1.nx<=x->g'.Z x=none) a1.defers .returning w1:=by
  rw[t1.df];obtain ⟨v,pO,qZ⟩:=IJ n1.env n1.hr n1.fr hr;exact ⟨v,pO,v,rfl,g1,qZ,n1.hr,t1.fr,t1.ro,n1.fresh⟩
 cases hx with
 |normal=>exact fin
 |ret=>exact fin
 |exit id=>cases he
 |fR hv=>cases he
end Go.bX
end
namespace Go.bX
variable {e n off K k j:Nat} {a x ox:Operand} {p:TypeId×aY} {o:Option SO} {svs vs:aY} {v u:SV} {l:br} {P:Nat->Prop} {J:Type} {t src:TypeId} {i:TI} {d:UD}
section
variable {c:Cp} {NC K':Nat}
inductive AV where
 |lit (v:SV)
 |sl (m e s n:Nat) (Q:List (List AV))
 |jx (cs:List AV)
 |agg (cs:List AV)
 |cS (cs:List AV)
 |fn (f:FuncId) (first eG:List AV)
 |el (K s j f:Nat)
 |ms (K s lo n:Nat)
 |mp (K:Nat)
 |it (K:Nat)
 |undef
 deriving Inhabited
abbrev AV.bool (b:Bool):AV:=.lit (.bool b)
abbrev AV.int (k:IntKind) (n:Int):AV:=.lit (.int k (.lit n))
abbrev AV.str (s:ByteArray):AV:=.lit (.str s)
abbrev AV.dE:AV:=.lit .dE
abbrev AV.qe:AV:=.lit .qe
abbrev AV.mu:AV:=.lit .mu
abbrev AV.pd:AV:=.lit .pd
abbrev AV.slice (e s n:Nat) (Q:List (List AV)):AV:=.sl 0 e s n Q
abbrev AV.qp (e s n:Nat) (Q:List (List AV)):AV:=.sl 2 e s n Q
abbrev AV.loc (K f:Nat):AV:=.el K 0 0 f
inductive Sh where
 |d
 |o (x:Bool) (l:List Sh)
inductive Bx where
 |flat (e:TypeId) (cs:List AV)
 |cy (z:Bool) (e s:Nat) (l:List Sh) (Q:List (List AV)) (o:List (Nat×AV))
 |map (es:List (AV×AV))
 |iter (s:ByteArray) (pos:Nat)
 deriving Inhabited
abbrev bA:=List (List AV)
abbrev zty13_:=Nat->List Nat
abbrev cL:=List (Nat×Bx)
abbrev fA:=List (Nat×AV)
abbrev bc:=List AV
abbrev dX:=List Sh
abbrev Bx.rows (z:Bool) (e s:Nat) (Q:bA):Bx:=.cy z e s [] Q []
abbrev Bx.tree (e s:Nat) (l:dX) (Q:bA) (o:fA):Bx:=.cy false e s l Q o
def wi (x:Bool) (e s n:Nat) (Q:bA):AV:=.sl (aQ x 2 0) e s n Q
structure GK where
 n:Nat
 c:Cp
 b:Bool
abbrev Gb:=Nat->GK
def lA:Gb:=λ_=>⟨0,.k 0,false⟩
abbrev Ow:=List (Nat×SO)
def aef (e:TypeId) (n:Nat):Cp->Prop
 | .u e'=>e'=e
 | .k m=>n<=m
def yy (e:TypeId) (s n len:Nat):Cp->Prop
 | .u e'=>e'=e/\n*s<=len
 | .k m=>n<=m/\len=m*s
def aiE {s len:Nat} (hc:yy e s n len c):aef e n c:=by
 cases c<;>exact hc.1
def oA {s len:Nat} (hc:yy e s n len c):n*s<=len:=by
 cases c with
 |k m=>rw[hc.2];exact kK _ hc.1
 |u e'=>exact hc.2
mutual
inductive VA (F:Hf):Gb->SV->AV->Prop
 |lit {g:_} (v:_):VA F g v (.lit v)
 |nil {g:_} (m e s:_):VA F g .dE (.sl m e s 0 [])
 |sle {g:_} (e s:_):VA F g .sle (.sl 2 e s 0 [])
 |sl {g m id off c e s n Q e' svs:_} (hn:Q.length=n) (hF:je (F id) off (n*s)=some (e',svs)) (hc:aef e n c) (hm:m=1->Q≠ []) (hu:∀r∈Q,r.length=s) (hl:off+n*s<=svs.length) (h:dA F lA ((svs.drop off).take (n*s)) Q.flatten):VA F g (.sl id off n c) (.sl m e s n Q)
 |jx {g id off cs e svs:_} (hF:je (F id) off cs.length=some (e,svs)) (hl:off+cs.length<=svs.length) (h:dA F lA ((svs.drop off).take cs.length) cs):VA F g (.ptr id off) (.jx cs)
 |agg {g cs xs:_} (h:dA F g cs xs):VA F g (.agg cs) (.agg xs)
 |cS {g cs xs:_} (h:dA F g cs xs):VA F g (.cS cs) (.cS xs)
 |fn {g:_} (f:_) {a c xs ys:_} (h1:dA F g a xs) (h2:dA F g c ys):VA F g (.fn (.func f) a c) (.fn f xs ys)
 |el {g:_} (K s j f:_) (hb:(g K).b=true):VA F g (.ptr (g K).n (j*s+f)) (.el K s j f)
 |rn {g K:_} (s:_) (hb:(g K).b=false):VA F g .dE (.ms K s 0 0)
 |ms {g K:_} (s lo n:_) (hb:(g K).b=true):VA F g (.sl (g K).n (lo*s) n (F4 (g K).c lo)) (.ms K s lo n)
 |xc {g K:_} (s lo:_) (hl:0<lo):VA F g .sle (.ms K s lo 0)
 |mp {g:_} (K:_):VA F g (.mp (g K).n) (.mp K)
 |it {g:_} (K:_):VA F g (.ptr (g K).n 0) (.it K)
 |undef {g:_} (v:_):VA F g v .undef
inductive dA (F:Hf):Gb->aY->bc->Prop
 |nil {g:_}:dA F g [] []
 |cons {g v x vs xs:_} (h:VA F g v x) (t:dA F g vs xs):dA F g (v::vs) (x::xs)
end
def nu (F F':Hf):Prop:=∀id o,F id=some o->F' id=some o
def nu.refl (F:Hf):nu F F:=λ_ _ h=>h
def nu.trans {a b c:Hf} (h:nu a b) (k:nu b c):nu a c:=λid o q=>k id o (h id o q)
def yv {F F':Hf} (hF:nu F F') {id:Nat} (q:je (F id) off n=some p):je (F' id) off n=some p:=by
 cases hf:F id with
 |none=>rw[hf] at q;cases q
 |some o=>rw[hF id o hf,<-hf];exact q
def WI {F:Hf} {id:Nat} (q:je (F id) off n=some p):∃o,F id=some o:=by
 cases hf:F id with
 |none=>rw[hf] at q;cases q
 |some o=>exact ⟨o,rfl⟩
def ru {e:TypeId} (h:o=some (.cells e svs)):je o off n=some (e,svs):=by rw[h];rfl
def JJ:∀{cs:aY},(∀(j:Nat) (x:SV),cs[j]? =some x->HQ x=false)->uR cs=true
 | [],_=>rfl
 |y::cs,h=>by
  show aQ (HQ y) false (uR cs)=true;rw[bH,aL (by rw[h 0 y rfl];decide)]
  exact JJ λj x hx=>h (j+1) x hx
def wL {n':Nat} (h:je o off n=some p) (h1:off<=NC) (h2:NC+n'<=off+n):je o NC n'=some p:=by
 cases o with
 |none=>cases h
 |some x=>cases x with
  |ro cs=>
   obtain ⟨hd,hx⟩:=aV (show aQ (uR ((cs.drop off).take n)) (some (0,cs)) none=some p from h);show aQ (uR ((cs.drop NC).take n')) (some (0,cs)) none=some p;rw[bH,aH (JJ λj x hj=> ?_)]
   ·exact hx
   ·rw[eN] at hj;split at hj
    ·rw[fa] at hj;refine G0 hd (j:=NC-off+j) ?_;rw[eN,aH (by omega),fa,show off+(NC-off+j)=NC+j by omega]
     exact hj
    ·cases hj
  |_=>exact h
mutual
def jJ:AV->br
 | .agg cs=>ky cs
 | .cS cs=>ky cs
 | .fn _ a c=>ky a++ky c
 | .el K _ _ _=> [K]
 | .ms K _ _ _=> [K]
 | .mp K=> [K]
 | .it K=> [K]
 |_=> []
def ky:bc->br
 | []=> []
 |x::l=>jJ x++ky l
end
mutual
def Dq (f:Nat->Nat):AV->AV
 | .agg cs=>.agg (sQ f cs)
 | .cS cs=>.cS (sQ f cs)
 | .fn i a c=>.fn i (sQ f a) (sQ f c)
 | .el K s j i=>.el (f K) s j i
 | .ms K s lo n=>.ms (f K) s lo n
 | .mp K=>.mp (f K)
 | .it K=>.it (f K)
 |x=>x
def sQ (f:Nat->Nat):bc->bc
 | []=> []
 |x::l=>Dq f x::sQ f l
end
mutual
def Ls:∀x:AV,Dq (λk=>k) x=x
 | .agg cs=>bN AV.agg (vp cs)
 | .cS cs=>bN AV.cS (vp cs)
 | .fn i a c=>by show AV.fn i (sQ _ a) (sQ _ c)=_;rw[vp a,vp c]
 | .el .. | .ms .. | .mp _| .it _| .lit _| .sl .. | .jx _| .undef=>rfl
def vp:∀l:bc,sQ (λk=>k) l=l
 | []=>rfl
 |x::l=>by show Dq _ x::sQ _ l=_;rw[Ls x,vp l]
end
variable {F F':Hf} {g g':Gb} {f:Nat->Nat}
mutual
def VA.map (hF:nu F F'):∀{g v x},VA F g v x->∀{g':Gb} {f:Nat->Nat},(∀k∈jJ x,g' (f k)=g k)->VA F' g' v (Dq f x)
 |_,_,_,.lit v,_,_,_=>.lit v
 |_,_,_,.nil m e s,_,_,_=>.nil m e s
 |_,_,_,.sle e s,_,_,_=>.sle e s
 |_,_,_,.sl hn q hc hm hu hl h,_,_,_=>.sl hn (yv hF q) hc hm hu hl (h.mono hF)
 |_,_,_,.jx q hl h,_,_,_=>.jx (yv hF q) hl (h.mono hF)
 |_,_,_,.agg h,_,_,k=>.agg (h.map hF k)
 |_,_,_,.cS h,_,_,k=>.cS (h.map hF k)
 |_,_,_,.fn i h1 h2,_,_,k=>.fn i (h1.map hF λj hj=>k j (gE _ hj)) (h2.map hF λj hj=>k j (iz _ hj))
 |_,_,_,.el K s j i hb,_,f,k=>by have e:=k K (by simp[jJ]);rw[<-e] at hb ⊢;exact .el (f K) s j i hb
 |_,_,_,.rn s hb,_,_,k=>.rn s (by rw[k _ (by simp[jJ])];exact hb)
 |_,_,_,.ms (K:=K) s lo n hb,_,f,k=>by have e:=k K (by simp[jJ]);rw[<-e] at hb ⊢;exact .ms s lo n hb
 |_,_,_,.xc s lo hl,_,_,_=>.xc s lo hl
 |_,_,_,.mp K,_,f,k=>by rw[<-k K (by simp[jJ])];exact .mp (f K)
 |_,_,_,.it K,_,f,k=>by rw[<-k K (by simp[jJ])];exact .it (f K)
 |_,_,_,.undef v,_,_,_=>.undef v
def dA.map (hF:nu F F'):∀{g vs xs},dA F g vs xs->∀{g':Gb} {f:Nat->Nat},(∀k∈ky xs,g' (f k)=g k)->dA F' g' vs (sQ f xs)
 |_,_,_,.nil,_,_,_=>.nil
 |_,_,_,.cons h t,_,_,k=>.cons (h.map hF λj hj=>k j (gE _ hj)) (t.map hF λj hj=>k j (iz _ hj))
def dA.mono (hF:nu F F'):∀{g vs xs},dA F g vs xs->dA F' g vs xs
 |_,_,_,.nil=>.nil
 |_,_,_,.cons h t=>.cons (by have:=h.map hF (g':=_) (f:=λk=>k) λ_ _=>rfl;rwa[Ls] at this) (t.mono hF)
end
def VA.same {x:AV} (h:VA F g v x) (hF:nu F F') (hg:∀k∈jJ x,g' k=g k):VA F' g' v x:=by
 have:=h.map hF hg;rwa[Ls] at this
def VA.mono {x:AV} (hF:nu F F') (h:VA F g v x):VA F' g v x:=h.same hF λ_ _=>rfl
def dA.same {xs:bc} (h:dA F g vs xs) (hF:nu F F') (hg:∀k∈ky xs,g' k=g k):dA F' g' vs xs:=by
 have:=h.map hF hg;rwa[vp] at this
def apO (h:l.isEmpty=true):∀k∈l,P k:=λk hk=>by
 cases l with
 |nil=>cases hk
 |cons=>cases h
def dA.length:∀{vs xs},dA F g vs xs->vs.length=xs.length
 |_,_,.nil=>rfl
 |_,_,.cons _ t=>by simp[t.length]
def dA.get:∀{vs xs},dA F g vs xs->∀{j:Nat} {x:AV},xs[j]? =some x->∃v,vs[j]? =some v/\VA F g v x
 |_,_,.nil,_,_,h=>by simp at h
 |_,_,.cons h t,0,x,hx=>by simp at hx;subst hx;exact ⟨_,rfl,h⟩
 |_,_,.cons h t,j+1,x,hx=>by simp at hx;obtain ⟨v,a,b⟩:=t.get hx;exact ⟨v,by simpa using a,b⟩
def dA.append:∀{vs xs ws ys},dA F g vs xs->dA F g ws ys->dA F g (vs++ws) (xs++ys)
 |_,_,_,_,.nil,k=>k
 |_,_,_,_,.cons h t,k=>.cons h (t.append k)
def dA.drop:∀{vs xs} (n:Nat),dA F g vs xs->dA F g (vs.drop n) (xs.drop n)
 |_,_,0,h=>h
 |_,_,n+1,.nil=>by simpa using .nil
 |_,_,n+1,.cons _ t=>by simpa using t.drop n
def dA.take:∀{vs xs} (n:Nat),dA F g vs xs->dA F g (vs.take n) (xs.take n)
 |_,_,0,_=>by simpa using .nil
 |_,_,n+1,.nil=>by simpa using .nil
 |_,_,n+1,.cons h t=>by simpa using .cons h (t.take n)
def gx (xs:bc) (off:Nat) (ys:bc):bc:=xs.take off++ys++xs.drop (Nat.add off ys.length)
def dA.eK {vs xs ws ys} (h:dA F g vs xs) (k:dA F g ws ys) (off:Nat):dA F g (eK vs off ws) (gx xs off ys):=by
 have:=((h.take off).append k).append (h.drop (off+ys.length));show dA F g (vs.take off++ws++vs.drop (off+ws.length)) _;rw[k.length];exact this
mutual
inductive TC (F:Hf):Sh->SV->AV->Ow->Prop
 |d {v x:_} (q:VA F lA v x):TC F .d v x []
 |any {sh:_} (v:_):TC F sh v .undef []
 |nil {b l e s:_}:TC F (.o b l) .dE (wi b e s 0 []) []
 |sl {b l id c svs e s n Q L:_} (hn:Q.length=n) (hu:∀r∈Q,r.length=s) (hc:yy e s n svs.length c) (q:TR F l (svs.take (n*s)) Q L):TC F (.o b l) (.sl id 0 n c) (wi b e s n Q) ((id,.cells e svs)::L)
inductive ke (F:Hf):dX->aY->bc->Ow->Prop
 |nil {l:_}:ke F l [] [] []
 |cons {l v vs x xs a b:_} (q:TC F (l.headD .d) v x a) (t:ke F l.tail vs xs b):ke F l (v::vs) (x::xs) (a++b)
inductive TR (F:Hf):dX->aY->bA->Ow->Prop
 |nil {l:_}:TR F l [] [] []
 |cons {l vs ws r rows a b:_} (q:ke F l vs r a) (t:TR F l ws rows b):TR F l (vs++ws) (r::rows) (a++b)
end
mutual
def TC.mono (hF:nu F F'):∀{sh v x L},TC F sh v x L->TC F' sh v x L
 |_,_,_,_,.d q=>.d (q.mono hF)
 |_,_,_,_,.any v=>.any v
 |_,_,_,_,.nil=>.nil
 |_,_,_,_,.sl hn hu hc q=>.sl hn hu hc (q.mono hF)
def ke.mono (hF:nu F F'):∀{l vs xs L},ke F l vs xs L->ke F' l vs xs L
 |_,_,_,_,.nil=>.nil
 |_,_,_,_,.cons q t=>.cons (q.mono hF) (t.mono hF)
def TR.mono (hF:nu F F'):∀{l vs Q L},TR F l vs Q L->TR F' l vs Q L
 |_,_,_,_,.nil=>.nil
 |_,_,_,_,.cons q t=>.cons (q.mono hF) (t.mono hF)
end
def ke.length:∀{l vs xs L},ke F l vs xs L->vs.length=xs.length
 |_,_,_,_,.nil=>rfl
 |_,_,_,_,.cons _ t=>by simp[t.length]
def TR.length {s:Nat}:∀{l vs Q L},TR F l vs Q L->(∀r∈Q,r.length=s)->vs.length=Q.length*s
 |_,_,_,_,.nil,_=>by simp
 |_,_,_,_,.cons q t,hu=>by
  rw[gO,q.length,hu _ (by simp),t.length λr hr=>hu r (fO _ hr),kr,Nat.succ_mul]
  omega
mutual
def TC.data (hF:nu F F'):∀{sh v x L},TC F sh v x L->(∀p∈L,F' p.1=some p.2)->VA F' lA v x
 |_,_,_,_,.d q,_=>q.mono hF
 |_,_,_,_,.any v,_=>.undef v
 |_,_,_,_,.nil,_=>.nil _ _ _
 |_,_,_,_,@TC.sl _ b l id c svs e s n Q L hn hu hc q,hk=>.sl (m:=aQ b 2 0) hn (ru (hk (id,.cells e svs) (by simp))) (aiE hc) (λh=>by cases b<;>cases h) hu (by rw[cA];exact oA hc) (by simpa using q.data hF λp hp=>hk p (fO _ hp))
def ke.data (hF:nu F F'):∀{l vs xs L},ke F l vs xs L->(∀p∈L,F' p.1=some p.2)->dA F' lA vs xs
 |_,_,_,_,.nil,_=>.nil
 |_,_,_,_,.cons q t,hk=>.cons (q.data hF λp hp=>hk p (gE _ hp)) (t.data hF λp hp=>hk p (iz _ hp))
def TR.data (hF:nu F F'):∀{l vs Q L},TR F l vs Q L->(∀p∈L,F' p.1=some p.2)->dA F' lA vs Q.flatten
 |_,_,_,_,.nil,_=>.nil
 |_,_,_,_,.cons q t,hk=>by
  rw[qF];exact (q.data hF λp hp=>hk p (gE _ hp)).append (t.data hF λp hp=>hk p (iz _ hp))
end
def ke.uI:∀{vs xs},dA F lA vs xs->ke F [] vs xs []
 |_,_,.nil=>.nil
 |_,_,.cons h t=>.cons (l:= []) (.d h) (ke.uI t)
def TR.uI {s:Nat}:∀{Q:bA} {vs},(∀r∈Q,r.length=s)->dA F lA vs Q.flatten->TR F [] vs Q []
 | [],vs,_,q=>by cases q;exact .nil
 |r::Q,vs,hu,q=>by
  rw[qF] at q;have q1:=q.take r.length;have q2:=q.drop r.length;rw[YR] at q1;rw[YQ] at q2;have:=TR.cons (ke.uI q1) (TR.uI (λr' hr=>hu r' (fO _ hr)) q2)
  rwa[DN] at this
def Bx.keys:Bx->br
 | .flat _ cs=>ky cs
 | .cy _ _ _ _ _ o=>ky (o.map (·.2))
 |_=> []
def Bx.jq (f:Nat->Nat):Bx->Bx
 | .flat e cs=>.flat e (sQ f cs)
 | .cy z e s l Q o=>.cy z e s l Q (o.map λp=>(p.1,Dq f p.2))
 |b=>b
def HoA (F:Hf) (g:Gb) (svs:aY) (o:fA):Prop:=∀p∈o,∃v,svs[p.1]? =some v/\VA F g v p.2
inductive eH (F:Hf) (g:Gb) (K:Nat):Bx->Ow->Prop
 |flat {e cs svs:_} (q:dA F g svs cs):eH F g K (.flat e cs) [((g K).n,.cells e svs)]
 |nil {z e s l:_} (hb:(g K).b=false):eH F g K (.cy z e s l [] []) []
 |cy {z e s l Q o svs L:_} (hb:(g K).b=true) (hz:z=true->Q≠ []) (hu:∀r∈Q,r.length=s) (hc:yy e s Q.length svs.length (g K).c) (q:TR F l (svs.take (Q.length*s)) Q L) (ho:HoA F g svs o):eH F g K (.cy z e s l Q o) (((g K).n,.cells e svs)::L)
 |map {es ms c:_} (hk:dA F lA (ms.map (·.1)) (es.map (·.1))) (hv:dA F lA (ms.map (·.2.1)) (es.map (·.2))):eH F g K (.map es) [((g K).n,.map ms c)]
 |iter {s pos:_}:eH F g K (.iter s pos) [((g K).n,.nF s pos)]
def Ag:∀{l:bc} {x:AV},x∈l->∀k∈jJ x,k∈ky l
 |y::l,x,hx,k,hk=>(cH.1 hx).elim (λe=>gE _ (e ▸ hk)) λhx=>iz _ (Ag hx k hk)
def HoA.map {svs:aY} {o:fA} (h:HoA F g svs o) (hF:nu F F') (hg:∀k∈ky (o.map (·.2)),g' (f k)=g k):HoA F' g' svs (o.map λp=>(p.1,Dq f p.2)):=λp hp=>by
 obtain ⟨q,hq,rfl⟩:=cO.1 hp;obtain ⟨v,h1,h2⟩:=h q hq;exact ⟨v,h1,h2.map hF λk hk=>hg k (Ag (cO.2 ⟨q,hq,rfl⟩) k hk)⟩
def eH.mv {b:Bx} {L:Ow} (q:eH F g K b L) (hF:nu F F') (hK:g' K'=g K) (hg:∀k∈b.keys,g' (f k)=g k):eH F' g' K' (b.jq f) L:=by
 cases q with
 |flat q=>rw[<-hK];exact .flat (q.map hF hg)
 |nil hb=>exact .nil (hK ▸ hb)
 |cy hb hz hu hc q ho=>rw[<-hK] at hb hc ⊢;exact .cy hb hz hu hc (q.mono hF) (ho.map hF hg)
 |map hk hv=>rw[<-hK];exact .map (hk.mono hF) (hv.mono hF)
 |iter=>rw[<-hK];exact .iter
def Bx.aEV (b:Bx):b.jq (λk=>k)=b:=by
 cases b with
 |flat e cs=>exact bN (Bx.flat e) (vp cs)
 |cy z e s l Q o=>
  refine bN (Bx.cy z e s l Q) ?_;rw[show (λp:Nat×AV=>(p.1,Dq (λk=>k) p.2))=id from funext λp=>by rw[Ls];rfl,List.map_id]
 |_=>rfl
def eH.same {b:Bx} {L:Ow} (q:eH F g K b L) (hF:nu F F') (hK:g' K=g K) (hg:∀k∈b.keys,g' k=g k):eH F' g' K b L:=by
 have:=q.mv hF hK hg;rwa[Bx.aEV] at this
end
section
structure LS where
 ts:fA
 bs:cL
def lk {J:Type} (t:Nat) (l:List (Nat×J)):Option J:=List.rec none (λp _ ih=>aQ (Nat.beq t p.1) (some p.2) ih) l
def dz (t k:Nat) (x:J) (l:List (Nat×J)):lk t ((k,x)::l)=if t=k then some x else lk t l:=by
 show aQ (Nat.beq t k) (some x) (lk t l)=_;rw[bH];by_cases h:t=k
 ·rw[aH h,aH ((beq_iff _ _).2 h)]
 ·rw[aL h,aL (λe=>h ((beq_iff _ _).1 e))]
def Bn {J O:Type} (f:Nat->J->O) (t:Nat):∀l:List (Nat×J),lk t (l.map λp=>(p.1,f p.1 p.2))=(lk t l).map (f t)
 | []=>rfl
 |(k,x)::l=>by
  rw[jc,dz,dz,Bn f t l];split
  ·rename_i e;subst e;rfl
  ·rfl
def nX {J:Type} {t:Nat} {x:J}:∀{l:List (Nat×J)},lk t l=some x->(t,x)∈l
 | [],h=>by cases h
 |(k,y)::l,h=>by
  rw[dz] at h;split at h
  ·rename_i e;cases h;rw[e];exact jt
  ·exact fO _ (nX h)
def ki {J:Type} (K:Nat) (l:List (Nat×J)):List (Nat×J):=List.rec [] (λp _ ih=>aQ (Nat.beq p.1 K) ih (p::ih)) l
def vr {J:Type} (K k:Nat):∀l:List (Nat×J),lk k (ki K l)=if k=K then none else lk k l
 | []=>by split<;>rfl
 |(j,x)::l=>by
  show lk k (aQ (Nat.beq j K) (ki K l) ((j,x)::ki K l))=_;rw[bH,dz];split
  ·rename_i e;obtain rfl:=(beq_iff _ _).1 e;rw[vr j k l];split<;>rfl
  ·rename_i e;have hj:j≠K:=λc=>e ((beq_iff _ _).2 c)
   rw[dz,vr K k l];by_cases hk:k=j
   ·rw[aH hk,aH hk,aL (λc=>hj (hk ▸ c))]
   ·rw[aL hk,aL hk]
variable {F F':Hf} {g g':Gb} {Y:Nat->Ow} {c:Nat->bP} {s s':LS} {T T':Tf} {H H':Hf}
structure Rel (F:Hf) (g:Gb) (Y:Nat->Ow) (c:Nat->bP) (s:LS) (T:Tf) (H:Hf):Prop where
 tm:∀t x,lk t s.ts=some x->x≠ .undef->∃v,T t=some v/\VA F g v x
 bx:∀k b,lk k s.bs=some b->eH F g k b (Y k)/\((Y k).map (·.1)).Nodup/\∀p∈Y k,H p.1=some p.2/\c p.1=some k
 fr:∀i o,F i=some o->H i=some o/\c i=none
 cn:∀i,H i=none->c i=none
def Rel.sub (r:Rel F g Y c s T H) (h1:∀t x,lk t s'.ts=some x->lk t s.ts=some x) (h2:∀k b,lk k s'.bs=some b->lk k s.bs=some b):Rel F g Y c s' T H:=
 {r with tm:=λt x hx=>r.tm t x (h1 t x hx),bx:=λk b hb=>r.bx k b (h2 k b hb)}
def LS.put (s:LS) (d:bP) (x:AV):LS:= @Option.rec Nat (λ_=>LS) s (λd=>⟨(d,x)::s.ts,s.bs⟩) d
def Rel.put (r:Rel F g Y c s T H) (d:bP) {x:AV} (hv:x≠ .undef->VA F g v x):Rel F g Y c (s.put d x) (jk T d v) H:=by
 cases d with
 |none=>exact {r with tm:=λt y hy hn=>by simpa[jk] using r.tm t y hy hn}
 |some d=>
  refine {r with tm:=λt y hy hn=> ?_}
  rw[show (s.put (some d) x).ts=(d,x)::s.ts from rfl,dz] at hy;simp only[jk,KB];split at hy
  ·rename_i e;cases hy;exact ⟨v,by rw[aH e.symm],hv hn⟩
  ·rename_i e;rw[aL λh=>e h.symm]
   exact r.tm t y hy hn
def Rel.akm (r:Rel F g Y c s T H) (hF:∀i o,F' i=some o->H i=some o/\c i=none) {ft:Nat->AV->AV} {fb:Nat->Bx->Bx} (h0:∀t,ft t .undef= .undef) (h1:∀t v x,lk t s.ts=some x->VA F g v x->VA F' g' v (ft t x))
  (h2:∀k b L,lk k s.bs=some b->eH F g k b L->eH F' g' k (fb k b) L):Rel F' g' Y c ⟨s.ts.map λp=>(p.1,ft p.1 p.2),s.bs.map λp=>(p.1,fb p.1 p.2)⟩ T H:=by
 refine ⟨λt y hy hn=> ?_,λk b hb=> ?_,hF,r.cn⟩
 ·have hy:lk t (s.ts.map λp=>(p.1,ft p.1 p.2))=some y:=hy
  rw[Bn] at hy;obtain ⟨x,hx,e⟩:=v7.1 hy;by_cases hu:x= .undef
  ·subst hu;rw[h0] at e;exact absurd e.symm hn
  ·obtain ⟨v,v1,v2⟩:=r.tm t x hx hu;exact ⟨v,v1,e ▸ h1 t v x hx v2⟩
 ·have hb:lk k (s.bs.map λp=>(p.1,fb p.1 p.2))=some b:=hb
  rw[Bn] at hb;obtain ⟨b0,o7,rfl⟩:=v7.1 hb;obtain ⟨q,q2⟩:=r.bx k b0 o7;exact ⟨h2 k b0 _ o7 q,q2⟩
def lT {J:Type} (Y:Nat->J) (K:Nat) (x:J):Nat->J:=λk=>if k=K then x else Y k
def LS.free (s:LS) (K:Nat):Prop:=(∀t x,lk t s.ts=some x->K∉jJ x)/\∀k b,k≠K->lk k s.bs=some b->K∉b.keys
def LS.set (s:LS) (K:Nat) (b:Bx):LS:=⟨s.ts,(K,b)::s.bs⟩
def Alike (s:LS) (K:Nat) (g g':Gb):Prop:=g'=g\/(s.free K/\∀k,k≠K->g' k=g k)
def Alike.va (h:Alike s K g g') {t:Nat} {x:AV} (hx:lk t s.ts=some x) (hv:VA F g v x):VA F g' v x:=by
 rcases h with rfl|⟨h1,h2⟩
 ·exact hv
 ·exact hv.same (.refl F) λk hk=>h2 k λe=>h1.1 t x hx (e ▸ hk)
def Alike.box (h:Alike s K g g') {b:Bx} (cZ:k≠K) (hb:lk k s.bs=some b) {L:Ow} (q:eH F g k b L):eH F g' k b L:=by
 rcases h with rfl|⟨h1,h2⟩
 ·exact q
 ·exact q.same (.refl F) (h2 k cZ) λj hj=>h2 j λe=>h1.2 k b cZ hb (e ▸ hj)
open Classical in
def Rel.chg (r:Rel F g Y c s T H) {b':Bx} {L':Ow} (hb:eH F g' K b' L') (nd:(L'.map (·.1)).Nodup) (hL:∀p∈L',H' p.1=some p.2/\(c p.1=some K\/H p.1=none)) (hH:∀i,H' i≠H i->c i=some K\/H i=none) (hg:Alike s K g g'):∃c',Rel F g' (lT Y K L') c' (s.set K b') T H'/\(∀i,H i≠none->c i≠some K->c' i=c i)/\(∀i k,c' i=some k->c i=some k\/(k=K/\i∈L'.map (·.1)))/\∀i k,c i=some k->c' i=some k\/H' i=none:=by
 let c':Nat->bP:=λi=>if H' i=none then none else if i∈L'.map (·.1) then some K else c i
 have keep:∀{i o},H i=some o->c i≠some K->H' i=some o/\c' i=c i:=λ{i o} hi hc=>by
  have e:H' i=H i:=nA λhn=>(hH i hn).elim hc λh=>by rw[h] at hi;cases hi
  refine ⟨e.trans hi,?_⟩;show (if H' i=none then none else if i∈L'.map (·.1) then some K else c i)=c i
  rw[e,hi,aL (by simp),aL λhm=> ?_]
  obtain ⟨p,hp,rfl⟩:=cO.1 hm;exact (hL p hp).2.elim hc λh=>by rw[h] at hi;cases hi
 refine ⟨c',⟨λt x hx hn=> ?_,λk b hk=> ?_,λi o hi=> ?_,λi hi=>aH hi⟩,λi hi hc=> ?_,λi k h=> ?_,λi k h=> ?_⟩
 ·obtain ⟨v,v1,v2⟩:=r.tm t x hx hn;exact ⟨v,v1,hg.va hx v2⟩
 ·rw[show (s.set K b').bs=(K,b')::s.bs from rfl,dz] at hk;unfold lT;split at hk
  ·rename_i e;cases hk;rw[aH e,e];refine ⟨hb,nd,λp hp=>⟨(hL p hp).1,?_⟩⟩
   show (if H' p.1=none then none else if p.1∈L'.map (·.1) then some K else c p.1)=some K
   rw[(hL p hp).1,aL (by simp),aH (cO.2 ⟨p,hp,rfl⟩)]
  ·rename_i e;rw[aL e];obtain ⟨q1,q2,q3⟩:=r.bx k b hk;refine ⟨hg.box e hk q1,q2,λp hp=> ?_⟩
   obtain ⟨p1,p2⟩:=q3 p hp;obtain ⟨k1,k2⟩:=keep p1 (by rw[p2];exact λh=>e (by injection h))
   exact ⟨k1,k2.trans p2⟩
 ·obtain ⟨p1,p2⟩:=r.fr i o hi;obtain ⟨k1,k2⟩:=keep p1 (by rw[p2];simp)
  exact ⟨k1,k2.trans p2⟩
 ·obtain ⟨o,ho⟩:=sq.1 hi;exact (keep ho hc).2
 ·have h:(if H' i=none then none else if i∈L'.map (·.1) then some K else c i)=some k:=h
  split at h
  ·cases h
  ·split at h
   ·rename_i hm;exact .inr ⟨(kV h).symm,hm⟩
   ·exact .inl h
 ·show (if H' i=none then none else if i∈L'.map (·.1) then some K else c i)=some k\/_
  split
  ·rename_i e;exact .inr e
  ·left;split
   ·rename_i hm;obtain ⟨p,hp,rfl⟩:=cO.1 hm;rcases (hL p hp).2 with e|e
    ·exact e.symm.trans h
    ·rw[r.cn _ e] at h;cases h
   ·exact h
def keyN {i:Nat} {c:Nat->bP} (h:(if c i=some K then none else c i)=some K):False:=by
 split at h
 ·cases h
 ·contradiction
def Rel.sink (r:Rel F g Y c s T H) (K:Nat):∃F' c',nu F F'/\((∀i k,c' i=some k->c i=some k)/\(∀i,F' i≠none->F i≠none\/c i=some K)/\(∀i,c i≠some K->c' i=c i)/\∀i,c' i≠some K)/\(∀b,lk K s.bs=some b->∀p∈Y K,F' p.1=some p.2)/\Rel F' g Y c' ⟨s.ts,ki K s.bs⟩ T H:=by
 let F':Hf:=λi=>if c i=some K then H i else F i
 have hF:nu F F':=λi o ho=>by
  show (if c i=some K then H i else F i)=some o
  rw[(r.fr i o ho).2,aL (by simp)]
  exact ho
 refine ⟨F',λi=>if c i=some K then none else c i,hF,⟨λi k h=> ?_,λi h=> ?_,λi h=>aL h,λi h=>keyN h⟩,λb hb p hp=> ?_,λt x hx hn=> ?_,λk b hk=> ?_,λi o hi=> ?_,λi hi=> ?_⟩
 ·dsimp only at h;split at h
  ·cases h
  ·exact h
 ·have h:(if c i=some K then H i else F i)≠none:=h
  split at h
  ·exact .inr (by assumption)
  ·exact .inl h
 ·obtain ⟨p1,p2⟩:=(r.bx K b hb).2.2 p hp;exact (aH p2).trans p1
 ·obtain ⟨v,v1,v2⟩:=r.tm t x hx hn;exact ⟨v,v1,v2.mono hF⟩
 ·rw[vr] at hk;split at hk
  ·cases hk
  ·rename_i cZ;obtain ⟨q1,q2,q3⟩:=r.bx k b hk;refine ⟨q1.same hF rfl λ_ _=>rfl,q2,λp hp=>⟨(q3 p hp).1,?_⟩⟩
   rw[(q3 p hp).2,aL λh=>cZ (by injection h)]
 ·have hi:(if c i=some K then H i else F i)=some o:=hi
  split at hi
  ·rename_i e;exact ⟨hi,aH e⟩
  ·rename_i e;exact ⟨(r.fr i o hi).1,(aL e).trans (r.fr i o hi).2⟩
 ·split
  ·rfl
  ·exact r.cn i hi
structure jP (pn:Nat->Bool) (s s':LS):Prop where
 go:∀{F g Y c T H},Rel F g Y c s T H->∃F' g' φ' c',nu F F'/\(∀k,pn k=true->g' k=g k)/\Rel F' g' φ' c' s' T H
variable {pn:Nat->Bool} {s1:LS}
def jP.refl:jP pn s s:=.mk λr=>⟨_,_,_,_,.refl _,λ_ _=>rfl,r⟩
def jP.trans (h:jP pn s s1) (k:jP pn s1 s'):jP pn s s':=.mk λr=>
 let ⟨_,_,_,_,h1,h2,r1⟩:=h.go r
 let ⟨_,_,_,_,k1,k2,r2⟩:=k.go r1
 ⟨_,_,_,_,h1.trans k1,λj hj=>(k2 j hj).trans (h2 j hj),r2⟩
end
section
variable {F:Hf} {g g':Gb} {Y:Nat->Ow} {c:Nat->bP} {s s':LS} {T:Tf} {H:Hf} {E:Env} {pn:Nat->Bool}
variable {f:Hf->SV->gq}
def dU (ts:fA) (x:Operand):AV:=
 match x with
 | .tmp t=>(lk t ts).getD .undef
 | .const v=>.lit (ue v)
 | .func f=>.fn f [] []
 | .global _=>.undef
def tW (ts:fA) (xs:List Operand):bc:=xs.map (dU ts)
def sF:AV->Bool
 | .undef=>true
 |_=>false
def Gz {x:AV} (h:sF x=false):x≠ .undef:=λe=>by rw[e] at h;cases h
def sA:bc->Bool
 | []=>true
 |x::l=>aQ (sF x) false (sA l)
def Rel.val (r:Rel F g Y c s T H) {y:AV} (hx:dU s.ts x=y) (hy:y≠ .undef):∃v,cE T x=some v/\VA F g v y:=by
 subst hx;cases x with
 |tmp t=>
  cases h:lk t s.ts with
  |none=>exact absurd (by show (lk t s.ts).getD .undef=_;rw[h];rfl) hy
  |some z=>
   have e:dU s.ts (.tmp t)=z:=by show (lk t s.ts).getD .undef=_;rw[h];rfl
   rw[e] at hy ⊢;exact r.tm t z h hy
 |const v=>exact ⟨_,rfl,.lit _⟩
 |func f=>exact ⟨_,rfl,.fn f .nil .nil⟩
 |global _=>exact absurd rfl hy
def Rel.fT (r:Rel F g Y c s T H):∀{xs:List Operand},sA (tW s.ts xs)=true->∃vs,fT T xs=some vs/\dA F g vs (tW s.ts xs)
 | [],_=>⟨[],rfl,.nil⟩
 |x::xs,h=>by
  have h:aQ (sF (dU s.ts x)) false (sA (tW s.ts xs))=true:=h;rw[bH] at h;split at h
  ·cases h
  ·rename_i hx;obtain ⟨v,v1,v2⟩:=r.val (x:=x) rfl (Gz (by simpa using hx))
   obtain ⟨vs,w1,w2⟩:=r.fT h;exact ⟨v::vs,by show bT (cE T x) (bX.fT T xs) _=_;rw[v1,w1];rfl,.cons v2 w2⟩
structure Ok (E:Env) (pn:Nat->Bool) (op:Op) (s s':LS) (x:AV) (W:br):Prop where
 go:∀{F:Hf} {g:Gb} {Y:Nat->Ow} {c:Nat->bP} {T:Tf} {H:Hf} {new:Nat},Rel F g Y c s T H->H new=none->∃v us g' φ' c',qT E op T H new=some (v,us)/\(x≠ .undef->VA F g' v x)/\Rel F g' φ' c' s' T (gz H us)/\(∀k,pn k=true->g' k=g k)/\
  (∀i,H i≠none->(∀K∈W,c i≠some K)->gz H us i=H i/\c' i=c i)/\(∀u∈us,u.1=new\/∃K∈W,c u.1=some K)/\(∀i k,c i=some k->c' i=some k\/gz H us i=none)/\(gz H us new≠none->∃K∈W,c' new=some K)
def Ok.val {op:Op} {x:AV} (h:∀{F:Hf} {g:Gb} {Y:Nat->Ow} {c:Nat->bP} {T:Tf} {H:Hf},Rel F g Y c s T H->∃v,(∀new,qT E op T H new=some (v,[]))/\VA F g v x):Ok E pn op s s x []:=⟨λ{F g Y c T H new} r hn=>by
 obtain ⟨v,v1,v2⟩:=h r;exact ⟨v,[],g,Y,c,v1 new,λ_=>v2,r,λ_ _=>rfl,λ_ _ _=>⟨rfl,rfl⟩,λ_ hu=>(by cases hu),λ_ _ h=>.inl h,λh=>absurd hn h⟩⟩
def Ok.un {op:Op} {x y:AV} (eT:∀T H new,qT E op T H new=one T a (f H)) (ha:dU s.ts a=y) (hy:y≠ .undef) (hf:∀{F:Hf} {g:Gb} {Y:Nat->Ow} {c:Nat->bP} {T:Tf} {H:Hf} {v:SV},Rel F g Y c s T H->VA F g v y->∃u,f H v=some (u,[])/\VA F g u x):Ok E pn op s s x []:=.val λ{F g Y c T H} r=>by
 obtain ⟨v,v1,v2⟩:=r.val ha hy;obtain ⟨u,u1,u2⟩:=hf r v2;exact ⟨u,λnew=>by rw[eT,one,v1];exact u1,u2⟩
def Ok.bi {op:Op} {b:Operand} {f:SV->SV->gq} {x y z:AV} (eT:∀T H new,qT E op T H new=two T a b f) (ha:dU s.ts a=y) (hy:y≠ .undef) (hb:dU s.ts b=z) (hz:z≠ .undef) (hf:∀{F:Hf} {g:Gb} {v w:SV},VA F g v y->VA F g w z->∃u,f v w=some (u,[])/\VA F g u x):Ok E pn op s s x []:=.val λ{F g Y c T H} r=>by
 obtain ⟨v,v1,v2⟩:=r.val ha hy;obtain ⟨w,w1,w2⟩:=r.val hb hz;obtain ⟨u,u1,u2⟩:=hf v2 w2;exact ⟨u,λnew=>by rw[eT,two,v1,w1];exact u1,u2⟩
def Ok.boxG {op:Op} {x:AV} {b':Bx} {s1:LS} (hs:∀{F:Hf} {g:Gb} {Y:Nat->Ow} {c:Nat->bP} {T:Tf} {H:Hf},Rel F g Y c s T H->Rel F g Y c s1 T H) (h:∀{F:Hf} {g:Gb} {Y:Nat->Ow} {c:Nat->bP} {T:Tf} {H:Hf} {new:Nat},Rel F g Y c s T H->H new=none->∃v us gk L',qT E op T H new=some (v,us)/\VA F (lT g K gk) v x/\eH F (lT g K gk) K b' L'/\(L'.map (·.1)).Nodup/\
  (∀p∈L',gz H us p.1=some p.2/\(c p.1=some K\/H p.1=none))/\(∀u∈us,u.1=new\/c u.1=some K)/\(gk=g K\/(pn K=false/\s1.free K))/\(gz H us new=none\/new∈L'.map (·.1))):Ok E pn op s (s1.set K b') x [K]:=⟨λ{F g Y c T H new} r hn=>by
 obtain ⟨v,us,gk,L',v1,v2,hb,nd,hL,hu,hg,hnw⟩:=h r hn;have r:=hs r;have cu:∀i,gz H us i≠H i->c i=some K\/H i=none:=λi hi=>by
  by_cases hm:i∈us.map (·.1)
  ·obtain ⟨u,sd,rfl⟩:=cO.1 hm;exact (hu u sd).elim (λe=>.inr (by rw[e];exact hn)) .inl
  ·exact absurd (mm hm H) hi
 have same:gk=g K->lT g K gk=g:=λe=>funext λk=>by unfold lT;split<;>simp_all
 obtain ⟨c',r',hc,Jr,hc3⟩:=r.chg hb nd hL cu (hg.elim (λe=>.inl (same e)) λhf=>.inr ⟨hf.2,λk hk=>aL hk⟩)
 refine ⟨v,us,_,_,c',v1,λ_=>v2,r',λk hk=> ?_,λi hi hW=> ?_,λu hm=>(hu u hm).imp_right λe=>⟨K,by simp,e⟩,λi k hk=>hc3 i k hk,λcZ=> ?_⟩
 ·rcases hg with e|⟨e,_⟩
  ·rw[same e]
  ·exact aL λe'=>by rw[e',e] at hk;cases hk
 ·have hK:=hW K (by simp)
  exact ⟨nA λcZ=>(cu i cZ).elim hK hi,hc i hi hK⟩
 ·rcases hnw with h|h
  ·exact absurd h cZ
  ·obtain ⟨p,hp,rfl⟩:=cO.1 h;exact ⟨K,by simp,((r'.bx K _ (by rw[show (s1.set K b').bs=(K,b')::s1.bs from rfl,dz,aH rfl])).2.2 p (by unfold lT;rw[aH rfl];exact hp)).2⟩⟩
def Ok.box {op:Op} {x:AV} {b':Bx} (h:∀{F:Hf} {g:Gb} {Y:Nat->Ow} {c:Nat->bP} {T:Tf} {H:Hf} {new:Nat},Rel F g Y c s T H->H new=none->∃v us gk L',qT E op T H new=some (v,us)/\VA F (lT g K gk) v x/\eH F (lT g K gk) K b' L'/\(L'.map (·.1)).Nodup/\
  (∀p∈L',gz H us p.1=some p.2/\(c p.1=some K\/H p.1=none))/\(∀u∈us,u.1=new\/c u.1=some K)/\(gk=g K\/(pn K=false/\s.free K))/\(gz H us new=none\/new∈L'.map (·.1))):Ok E pn op s (s.set K b') x [K]:=.boxG (λr=>r) h
def Ok.lay {op:Op} {x:AV} {b:Bx} (hp:pn K=false) (hf:s.free K) (h:∀{F:Hf} {g:Gb} {Y:Nat->Ow} {c:Nat->bP} {T:Tf} {H:Hf} {new:Nat},Rel F g Y c s T H->∃v o cp,qT E op T H new=some (v,[(new,some o)])/\
  ∀g':Gb,g' K=⟨new,cp,true⟩->(∀k,k≠K->g' k=g k)->VA F g' v x/\eH F g' K b [(new,o)]):Ok E pn op s (s.set K b) x [K]:=.box λ{F g Y c T H new} r hn=>by
 obtain ⟨v,o,cp,v1,v2⟩:=h (new:=new) r;obtain ⟨a,b⟩:=v2 (lT g K ⟨new,cp,true⟩) (aH rfl) λk hk=>aL hk
 refine ⟨v,_,⟨new,cp,true⟩,_,v1,a,b,by simp,λp hp=> ?_,λu hu=>.inl (by rw[ez.1 hu]),.inr ⟨hp,hf⟩,.inr (by simp)⟩
 obtain rfl:=ez.1 hp;exact ⟨by simp[gz,jo],.inr hn⟩
def Ok.wr {op:Op} {x:AV} {b b':Bx} (hb:lk K s.bs=some b) (h:∀{F:Hf} {g:Gb} {Y:Nat->Ow} {c:Nat->bP} {T:Tf} {H:Hf},Rel F g Y c s T H->∃v o o' L L',Y K=((g K).n,o)::L/\(∀new,qT E op T H new=some (v,[((g K).n,some o')]))/\
  VA F g v x/\eH F g K b' (((g K).n,o')::L')/\L'.Sublist L):Ok E pn op s (s.set K b') x [K]:=.box λ{F g Y c T H new} r hn=>by
 obtain ⟨v,o,o',L,L',e,v1,v2,v3,hs⟩:=h r;obtain ⟨_,q2,q3⟩:=r.bx K b hb;rw[e] at q2 q3;have same:lT g K (g K)=g:=funext λk=>by unfold lT;split<;>simp_all
 have qn:=(q3 ((g K).n,o) (by simp)).2
 have nd:(((g K).n,o')::L').map (·.1)|>.Nodup:=by rw[jc,px] at q2 ⊢;exact ⟨λh=>q2.1 ((hs.map _).subset h),(hs.map _).nodup q2.2⟩
 refine ⟨v,_,g K,((g K).n,o')::L',v1 new,by rw[same];exact v2,by rw[same];exact v3,nd,λp hp=> ?_,λu hu=>.inr (by rw[ez.1 hu];exact qn),.inl rfl,.inl ?_⟩
 rcases cH.1 hp with rfl|hp
 ·exact ⟨by simp[gz,jo],.inl qn⟩
 ·obtain ⟨p1,p2⟩:=q3 p (fO _ (hs.subset hp));refine ⟨?_,.inl p2⟩;show jo H ((g K).n,some o') p.1=_;unfold jo;rw[aL λe=> ?_]
  ·exact p1
  ·have:=(px.1 nd).1;exact this (by have e:p.1=(g K).n:=e;exact cO.2 ⟨p,hp,e⟩)
 ·show (if new=(g K).n then _ else H new)=none
  rw[aL λe=> ?_]
  ·exact hn
  ·have:=(q3 ((g K).n,o) (by simp)).1
   rw[e] at hn;rw[show ((g K).n,o).1=(g K).n from rfl,hn] at this;cases this
end
section
variable {F F':Hf} {g g':Gb} {Y:Nat->Ow} {c:Nat->bP} {s s':LS} {T:Tf} {H:Hf} {E:Env} {pn:Nat->Bool}
variable {f:Nat} {v' w:SV} {oy:Operand} {dst:TypeId} {i2:TI}
def wy (vs:aY):bc:=vs.map .lit
def sE:∀{vs:aY},dA F g vs (wy vs)
 | []=>.nil
 |v::vs=>.cons (.lit v) sE
def acR (x:AV):Option bc:=
 match x with
 | .agg cs=>some cs
 | .lit (.agg vs)=>some (wy vs)
 |_=>none
def VF {x:AV} {cs:bc} (h:acR x=some cs) (hv:VA F g v x):∃vs,v= .agg vs/\dA F g vs cs:=by
 unfold acR at h;split at h
 ·cases h;cases hv with|agg q=>exact ⟨_,rfl,q⟩
 ·cases h;cases hv;exact ⟨_,rfl,sE⟩
 ·cases h
def BR (x:AV):Option bc:=
 match x with
 | .agg cs=>some cs
 | .lit v=>az v.cells λvs=>some (wy vs)
 | .cS _=>none
 | .undef=>none
 |x=>some [x]
def CV {x:AV} {xs:bc} (h:BR x=some xs) (hv:VA F g v x):∃vs,v.cells=some vs/\dA F g vs xs:=by
 unfold BR at h;split at h
 ·cases h;cases hv with|agg q=>exact ⟨_,rfl,q⟩
 ·obtain ⟨vs,h1,h⟩:=aq h;cases h;cases hv;exact ⟨vs,h1,sE⟩
 ·cases h
 ·cases h
 ·cases h;refine ⟨[v],?_,.cons hv .nil⟩;cases hv<;>first|rfl|simp_all
def ub (i:TI) (cs:bc) (off:Nat):Option AV:=
 aQ (l5 i.desc) (aQ (Nat.ble (Nat.add off i.size) cs.length) (some (.agg ((cs.drop off).take i.size))) none) (cs[off]?)
def vO {cs:bc} {x:AV} (q:dA F g vs cs) (hx:ub i cs off=some x):∃v,ij i vs off=some v/\VA F g v x:=by
 unfold ub at hx;unfold ij;rw[bH] at hx ⊢;split at hx
 ·rename_i ha;rw[aH ha];obtain ⟨hl,hx⟩:=aV hx;cases hx;rw[q.length,bH,aH hl];exact ⟨_,rfl,.agg ((q.drop off).take i.size)⟩
 ·rename_i ha;rw[aL ha];exact q.get hx
def aaN (h:ij i ((svs.drop off).take n) 0=some u) (hl:off+n<=svs.length):ij i svs off=some u:=by
 unfold ij at h ⊢;rw[bH] at h ⊢;split at h
 ·rename_i ha;rw[aH ha];obtain ⟨hle,hu⟩:=aV h;have hle:0+i.size<=((svs.drop off).take n).length:=(bV _ _).1 hle;rw[dR,iX] at hle;cases hu;rw[bH,aH (show Nat.ble (Nat.add off i.size) svs.length=true from (bV _ _).2 (show off+i.size<=svs.length by omega))]
  rw[rR,oD,fB (by omega)]
 ·rename_i ha;rw[aL ha];rw[eN] at h;split at h
  ·rw[fa] at h;simpa using h
  ·cases h
def azu {cs:bc} {x:AV} (h:ub i cs 0=some x):wide i<=cs.length:=by
 unfold ub at h;unfold wide;rw[bH] at h ⊢;split at h
 ·rename_i hg;rw[aH hg];have:=(bV _ _).1 (aV h).1;rwa[show Nat.add 0 i.size=i.size from cA _] at this
 ·rename_i hg;rw[aL hg];have:=(bY.1 h).1;omega
def ES (E:Env) (s:TypeId) (f:Nat):Option (Nat×TI):=az (E.ty.get s) λi=>az (xD i.desc) λfs=>az (fs[f]?) λfl=>az (E.ty.get fl.type) λfi=>some (fl.off,fi)
def JF {p:Nat×TI} (hf:ES E t f=some p):∃i fs fl,E.ty.get t=some i/\xD i.desc=some fs/\fs[f]? =some fl/\E.ty.get fl.type=some p.2/\fl.off=p.1:=by
 obtain ⟨i,hi,hf⟩:=aq hf;obtain ⟨fs,Jm,hf⟩:=aq hf;obtain ⟨fl,yX,hf⟩:=aq hf;obtain ⟨fi,hfi,hf⟩:=aq hf;cases hf;exact ⟨i,fs,fl,hi,Jm,yX,hfi,rfl⟩
def arp (p:Nat×TI) (x:AV):Option AV:=
 aQ (Nat.ble 1 p.2.size) (match x with
  | .el K s j f=>some (.el K s j (Nat.add f p.1))
  | .jx cs=>aQ (Nat.ble p.1 cs.length) (some (.jx (cs.drop p.1))) none
  |_=>none) none
def auh {id:Nat} {cs:bc} (q:VA F g (.ptr id off) (.jx cs)) (hk:k<=cs.length):VA F g (.ptr id (off+k)) (.jx (cs.drop k)):=by
 cases q with
 |jx hF hl hv=>
  refine .jx (wL hF (by omega) (by rw[iX];omega)) (by rw[iX];omega) ?_
  have:=hv.drop k;rw[tS,tV] at this;rw[iX];exact this
def avb {p:Nat×TI} {x y:AV} (hp:ES E t f=some p) (hx:arp p y=some x) (hv:VA F g v y):∃u,ou E t f v=some (u,[])/\VA F g u x:=by
 obtain ⟨i,fs,fl,e1,e2,e3,e4,e5⟩:=JF hp;obtain ⟨mH,hx⟩:=aV hx;have key:∀id off,ou E t f (.ptr id off)=some (SV.ptr id (Nat.add off p.1),[]):=λid off=>by
  unfold ou;rw[e1];show az (xD i.desc) _=_;rw[e2];show az (fs[f]?) _=_;rw[e3];show az (E.ty.get fl.type) _=_;rw[e4];show aQ (Nat.ble 1 p.2.size) (some (SV.ptr id (Nat.add off fl.off),[])) none=_;rw[mH,e5]
 split at hx
 ·cases hx;cases hv;refine ⟨_,key _ _,?_⟩;rw[show Nat.add (_+_) p.1=_+Nat.add _ p.1 from fU _ _ _];exact .el _ _ _ _ (by assumption)
 ·obtain ⟨hk,hx⟩:=aV hx;cases hx;have HS:∃id off,v=SV.ptr id off:=by cases hv;exact ⟨_,_,rfl⟩
  obtain ⟨id,off,rfl⟩:=HS;exact ⟨_,key _ _,auh hv ((bV _ _).1 hk)⟩
 ·cases hx
def ava {p:Nat×TI} {cs:bc} {x:AV} (hp:ES E t f=some p) (q:dA F g vs cs) (hx:ub p.2 cs p.1=some x):∃u,xP E t f (.agg vs)=some (u,[])/\VA F g u x:=by
 obtain ⟨i,fs,fl,e1,e2,e3,e4,e5⟩:=JF hp;obtain ⟨u,u1,u2⟩:=vO q hx;refine ⟨u,?_,u2⟩;unfold xP;rw[e1];show az (xD i.desc) _=_;rw[e2];show az (fs[f]?) _=_;rw[e3];show az (E.ty.get fl.type) _=_;rw[e4];show same (ij p.2 vs fl.off)=_;rw[e5,u1];rfl
def LA {id:Nat} {e:TypeId} (hi:E.ty.get t=some i) (hh:je (H id) off (wide i)=some (e,svs)) (hu:ij i svs off=some u):same (oX E H t (.ptr id off))=some (u,[]):=by
 unfold oX;show same (az (E.ty.get t) λi=>az (je (H id) off (wide i)) λp=>ij i p.2 off)=_
 rw[hi];show same (az (je (H id) off (wide i)) λp=>ij i p.2 off)=_
 rw[hh];show same (ij i svs off)=_;rw[hu];rfl
def VA.qU {x:AV} (q:VA F g v x) (hk:(jJ x).isEmpty=true):VA F g' v x:=q.same (.refl F) (apO hk)
def dA.qU {v:aY} {x:bc} (q:dA F g v x) (hk:(ky x).isEmpty=true):dA F g' v x:=q.same (.refl F) (apO hk)
def zer {J:Type} (j:Nat) (x:Option J):Option J:=match j with|0=>x|_=>none
def YP {x:Option J} {y:J} (h:zer j x=some y):j=0/\x=some y:=by
 cases j with
 |zero=>exact ⟨rfl,h⟩
 |succ j=>cases h
def Gw (i:TI) (bs:cL):AV->Option AV
 | .jx cs=>az (ub i cs 0) λx=>aQ (jJ x).isEmpty (some x) none
 | .el K _ j off=>
  (match lk K bs with
  |some (.flat _ cs)=>zer j (ub i cs off)
  |_=>none)
 |_=>none
def Rel.flat (r:Rel F g Y c s T H) {K:Nat} {e:TypeId} {cs:bc} (hb:lk K s.bs=some (.flat e cs)):∃svs,Y K= [((g K).n,.cells e svs)]/\dA F g svs cs/\H (g K).n=some (.cells e svs):=by
 obtain ⟨q,_,q3⟩:=r.bx K _ hb;generalize Y K=L at q q3;cases q with
 | @flat e cs svs q=>exact ⟨svs,rfl,q,(q3 ((g K).n,.cells e svs) (by simp)).1⟩
def aif {x y:AV} (hi:E.ty.get t=some i) (hx:Gw i s.bs y=some x) (r:Rel F g Y c s T H) (hv:VA F g v y):∃u,same (oX E H t v)=some (u,[])/\VA F g u x:=by
 unfold Gw at hx;split at hx
 ·obtain ⟨x',hx,qY⟩:=aq hx;obtain ⟨hk,qY⟩:=aV qY;cases qY;cases hv with
  |jx hF hl hv=>
  obtain ⟨u,u1,u2⟩:=vO hv hx;exact ⟨u,LA hi (wL (yv (λi o h=>(r.fr i o h).1) hF) (dg _) (Nat.add_le_add_left (azu hx) _)) (aaN u1 hl),u2.qU hk⟩
 ·split at hx
  ·rename_i e cs hb;obtain ⟨rfl,hx⟩:=YP hx;cases hv;obtain ⟨svs,_,q,hH⟩:=r.flat hb;obtain ⟨u,u1,u2⟩:=vO q hx;exact ⟨u,by rw[lV,cA];exact LA hi (ru hH) u1,u2⟩
  ·cases hx
 ·cases hx
def binL:BinOp->IntKind->Int->Int->Option AV
 | .add,k,m,n=>some (.int k (k.wrap (m+n)))
 | .sub,k,m,n=>some (.int k (k.wrap (m-n)))
 | .mul,k,m,n=>some (.int k (k.wrap (m*n)))
 | .eql,_,m,n=>some (.bool (decide (m=n)))
 | .neq,_,m,n=>some (.bool (!decide (m=n)))
 | .lss,_,m,n=>some (.bool (decide (m<n)))
 | .leq,_,m,n=>some (.bool (!decide (n<m)))
 | .gtr,_,m,n=>some (.bool (decide (n<m)))
 | .geq,_,m,n=>some (.bool (!decide (m<n)))
 | .shr,k,m,n=>aQ (decide (n=1)) (some (.int k (m.fdiv 2))) none
 |_,_,_,_=>none
def NL {k k':IntKind} (h:gI k k'=true):k=k':=by cases k<;>cases k'<;>first|rfl|cases h
def VA.of_eq (h:v=v'):VA F g v (.lit v'):=h ▸ .lit v
def aCz {op:BinOp} {k:IntKind} {m n:Int} {x:AV} (hx:binL op k m n=some x):∃v,arK E op t k (.lit m) (.int k (.lit n))=some v/\VA F g v x:=by
 have kk:=akQ k;cases op<;>first|(cases hx;done)|skip
 case shr=>
  obtain ⟨hn,hx⟩:=aV hx;obtain rfl:n=1:=by simpa using hn
  cases hx;exact ⟨.int k (.lit (m.fdiv 2)),by cases k<;>rfl,.lit _⟩
 case add=>cases hx;exact ⟨_,by show aQ (gI k k) (some (SV.int k (acS k (.lit m) (.lit n)))) none=_;rw[kk];rfl,.lit _⟩
 case sub=>cases hx;exact ⟨_,by show aQ (gI k k) (some (SV.int k (Nq k (.lit m) (.lit n)))) none=_;rw[kk];rfl,.lit _⟩
 case mul=>cases hx;exact ⟨_,by cases k<;>rfl,.lit _⟩
 case eql=>cases hx;exact ⟨.bool (decide (m=n)),by show aQ (gI k k) (kZ false (some (GA m n))) none=_;rw[kk,AM];rfl,.lit _⟩
 case neq=>cases hx;exact ⟨.bool (!decide (m=n)),by show aQ (gI k k) (kZ true (some (GA m n))) none=_;rw[kk,AM];rfl,.lit _⟩
 case lss=>cases hx;exact ⟨.bool (decide (m<n)),by show aQ (gI k k) (kZ false (some (Aj m n))) none=_;rw[kk,vw];rfl,.lit _⟩
 case leq=>cases hx;exact ⟨.bool (!decide (n<m)),by show aQ (gI k k) (kZ true (some (Aj n m))) none=_;rw[kk,vw];rfl,.lit _⟩
 case gtr=>cases hx;exact ⟨.bool (decide (n<m)),by show aQ (gI k k) (kZ false (some (Aj n m))) none=_;rw[kk,vw];rfl,.lit _⟩
 case geq=>cases hx;exact ⟨.bool (!decide (m<n)),by show aQ (gI k k) (kZ true (some (Aj m n))) none=_;rw[kk,vw];rfl,.lit _⟩
def binS:BinOp->ByteArray->ByteArray->Option AV
 | .eql,a,b=>some (.bool (decide (a=b)))
 | .neq,a,b=>some (.bool (!decide (a=b)))
 | .lss,a,b=>some (.bool (Op.bytesLess a.toList b.toList))
 | .leq,a,b=>some (.bool (Op.bytesLess a.toList b.toList||a.toList==b.toList))
 | .gtr,a,b=>some (.bool (!(Op.bytesLess a.toList b.toList||a.toList==b.toList)))
 | .geq,a,b=>some (.bool (!Op.bytesLess a.toList b.toList))
 |_,_,_=>none
def aCy {op:BinOp} {a b:ByteArray} {x:AV} (hx:binS op a b=some x):∃v,arJ E op t a (.str b)=some v/\VA F g v x:=by
 cases op<;>first|(cases hx;done)|skip
 ·cases hx;exact ⟨.bool (Dk a b),rfl,.of_eq (by rw[vI])⟩
 ·cases hx;exact ⟨.bool (!Dk a b),rfl,.of_eq (by rw[vI])⟩
 all_goals (cases hx;exact ⟨_,rfl,.lit _⟩)
def ctor:SV->Nat
 | .qe=>1
 | .ptr _ _=>2
 | .dE=>3
 | .sl _ _ _ _=>4
 | .mu=>5
 | .mp _=>6
 | .pd=>7
 | .fn _ _ _=>8
 |_=>0
def XN:AV->bP
 | .lit v=>some (ctor v)
 | .el .. | .jx _=>some 2
 | .sl 0 _ _ _ (_::_)=>some 4
 | .mp _=>some 6
 | .fn .. =>some 8
 |_=>none
def eqC (k a b:Nat):Option Bool:=aQ (Nat.beq a k&&Nat.beq b k) (some true) (aQ ((Nat.beq a k&&Nat.beq b (k+1))||(Nat.beq a (k+1)&&Nat.beq b k)) (some false) none)
def kD:UD->bP
 | .pointer=>some 1
 | .slice _=>some 3
 | .map _ _=>some 5
 | .func=>some 7
 |_=>none
def aiz {x:AV} (h:XN x=some k) (hv:VA F g v x):ctor v=k:=by
 unfold XN at h;split at h<;>first|(cases h;done)|(cases h;cases hv<;>rfl)
def alF (h:kD d=some k) (eq:TypeId->SV->SV->Option Bool) (t:TypeId) (v w:SV):eqD d E eq t v w=eqC k (ctor v) (ctor w):=by
 cases d<;>first|(cases h;done)|(cases h;cases v<;>cases w<;>rfl)
def aoZ {sz:Nat} {Q:bA} (q:VA F g v (.sl 1 e sz n Q)):eqC 3 3 (ctor v)=some Q.isEmpty/\eqC 3 (ctor v) 3=some Q.isEmpty:=by
 cases q with
 |nil=>exact ⟨rfl,rfl⟩
 |sl hn hF hc hm=>cases Q with
  |nil=>exact absurd rfl (hm rfl)
  |cons=>exact ⟨rfl,rfl⟩
def alE (E:Env) (eq:TypeId->AV->AV->Option Bool) (xs ys:bc):List FL->Option Bool
 | []=>some true
 |f::fs=>aQ f.named (az (E.ty.get f.type) λi=>bT (ub i xs f.off) (ub i ys f.off) λx y=>bT (eq f.type x y) (alE E eq xs ys fs) λa b=>some (a&&b)) none
def avo (E:Env) (eq:TypeId->AV->AV->Option Bool) (t:TypeId):UD->AV->AV->Option Bool
 | .bool,.lit (.bool a),.lit (.bool b)=>some (a==b)
 | .int _,.lit (.int k (.lit a)),.lit (.int k' (.lit b))=>aQ (gI k k') (some (decide (a=b))) none
 | .string,.lit (.str a),.lit (.str b)=>some (decide (a=b))
 | .struct fs,x,y=>bT (acR x) (acR y) λxs ys=>aQ (E.P.stoodInHeld t) none (alE E eq xs ys fs)
 | .slice _,.lit .dE,.sl 1 _ _ _ Q=>some Q.isEmpty
 | .slice _,.sl 1 _ _ _ Q,.lit .dE=>some Q.isEmpty
 |d,x,y=>az (kD d) λk=>bT (XN x) (XN y) (eqC k)
def Vx (E:Env) (n:Nat):TypeId->AV->AV->Option Bool:=
 @Nat.rec (λ_=>TypeId->AV->AV->Option Bool) (λ_ _ _=>none) (λ_ eq t x y=>az (E.ty.get t) λi=>avo E eq t i.desc x y) n
def acn {eq:TypeId->SV->SV->Option Bool} {eqL:TypeId->AV->AV->Option Bool} (ih:∀t v w x y b,VA F g v x->VA F g w y->eqL t x y=some b->eq t v w=some b) {vs ws:aY} {xs ys:bc} (h1:dA F g vs xs) (h2:dA F g ws ys):∀{fs:List FL} {b:Bool},alE E eqL xs ys fs=some b->GU E eq vs ws fs=some b
 | [],_,hb=>hb
 |f::fs,b,hb=>by
  obtain ⟨hn,hb⟩:=aV hb;obtain ⟨i,hi,hb⟩:=aq hb;obtain ⟨x,y,hx,hy,hb⟩:=bp hb;obtain ⟨c,d,hc,hd,hb⟩:=bp hb;obtain ⟨v,v1,v2⟩:=vO h1 hx;obtain ⟨w,w1,w2⟩:=vO h2 hy;have e1:=ih _ _ _ _ _ _ v2 w2 hc;have e2:=acn ih h1 h2 hd;show aQ f.named (az (E.ty.get f.type) λi=>bT (ij i vs f.off) (ij i ws f.off) λx y=>andThen (eq f.type x y) (GU E eq vs ws fs)) none=_
  rw[hn,hi];show bT (ij i vs f.off) (ij i ws f.off) (λx y=>andThen (eq f.type x y) (GU E eq vs ws fs))=_
  rw[v1,w1];show andThen (eq f.type v w) (GU E eq vs ws fs)=_;rw[e1,e2];cases hb;cases c<;>rfl
def ais:∀(n:Nat) {t:TypeId} {v w:SV} {x y:AV} {b:Bool},VA F g v x->VA F g w y->Vx E n t x y=some b->eqT E n t v w=some b
 |0,_,_,_,_,_,_,_,_,hb=>by cases hb
 |n+1,t,v,w,x,y,b,hv,hw,hb=>by
  obtain ⟨i,hi,hb⟩:=aq (show az (E.ty.get t) (λi=>avo E (Vx E n) t i.desc x y)=some b from hb)
  show az (E.ty.get t) (λi=>eqD i.desc E (eqT E n) t v w)=_
  rw[hi];show eqD i.desc E (eqT E n) t v w=some b;generalize i.desc=d at hb;unfold avo at hb;split at hb
  ·cases hv;cases hw;exact hb
  ·cases hv;cases hw;obtain ⟨hk,hb⟩:=aV hb;show aQ (gI _ _) (some (GA _ _)) none=_;rw[hk,AM];exact hb
  ·cases hv;cases hw;show some (Dk _ _)=_;rw[vI];exact hb
  ·obtain ⟨xs,ys,h1,h2,hb⟩:=bp hb;obtain ⟨vs,rfl,q1⟩:=VF h1 hv;obtain ⟨ws,rfl,q2⟩:=VF h2 hw;show aQ (E.P.stoodInHeld t) none (GU E (eqT E n) _ _ _)=_;rw[bH] at hb ⊢;split at hb
   ·cases hb
   ·rename_i hs;rw[aL hs];exact acn (eqL:=Vx E n) (λ_ _ _ _ _ _ a b c=>ais n a b c) q1 q2 hb
  ·cases hv;rw[alF rfl];exact (aoZ hw).1.trans hb
  ·cases hw;rw[alF rfl];exact (aoZ hv).2.trans hb
  ·obtain ⟨k,hk,hb⟩:=aq hb;obtain ⟨a,b',h1,h2,hb⟩:=bp hb;rw[alF hk,aiz h1 hv,aiz h2 hw];exact hb
def aKO (E:Env) (t:TypeId) (x:AV):Bool:=
 match x with
 | .agg _=> !E.P.eqGuardType E.P.depth t
 | .lit (.agg _)=> !E.P.eqGuardType E.P.depth t
 | .undef=>false
 |_=>true
def amb (E:Env) (op:BinOp) (t:TypeId) (x y:AV):Option AV:=
 match x,y with
 | .lit (.int k (.lit m)),.lit (.int k' (.lit n))=>aQ (gI k k') (binL op k m n) none
 | .lit (.str a),.lit (.str b)=>binS op a b
 | .lit (.int _ _),_=>none
 | .lit (.str _),_=>none
 |x,y=>aQ (aKO E t x) (match op with
  | .eql=>az (Vx E 20 t x y) λb=>some (.bool b)
  | .neq=>az (Vx E 20 t x y) λb=>some (.bool (!b))
  |_=>none) none
def aFy {op:BinOp} {x y z:AV} (hv:VA F g v x) (hw:VA F g w y) (hz:amb E op t x y=some z):∃u,JR E op t ox oy v w=some u/\VA F g u z:=by
 unfold amb at hz;split at hz
 ·obtain ⟨hk,h2⟩:=aV hz;obtain rfl:=NL hk;cases hv;cases hw;exact aCz h2
 ·cases hv;cases hw;exact aCy hz
 ·cases hz
 ·cases hz
 ·rename_i n1 n2 n3 n4;obtain ⟨h1,h2⟩:=aV hz;clear hz;have hb:avO v=(λE op t ox oy x y=>U9 op E t ox oy x y)/\avm E t ox oy v=true:=by
   cases hv with
   |lit v=>cases v<;>first|exact ⟨rfl,h1⟩|exact ⟨rfl,rfl⟩|exact (n1 _ _ rfl).elim|exact (n2 _ rfl).elim
   |undef=>cases h1
   |_=>first|exact ⟨rfl,h1⟩|exact ⟨rfl,rfl⟩
  show ∃u,avO v E op t ox oy v w=some u/\VA F g u z;rw[hb.1];have key:∀{b:Bool},Vx E 20 t x y=some b->GS E t ox oy v w=some b:=λh2=>by
   unfold GS;rw[hb.2];exact ais 20 hv hw h2
  split at h2
  ·obtain ⟨b,h3,h2⟩:=aq h2;cases h2;exact ⟨.bool b,by show kZ false (GS E t ox oy v w)=_;rw[key h3];rfl,.lit _⟩
  ·obtain ⟨b,h3,h2⟩:=aq h2;cases h2;exact ⟨.bool (!b),by show kZ true (GS E t ox oy v w)=_;rw[key h3];rfl,.lit _⟩
  ·cases h2
def unL (op:UnOp):AV->Option AV
 | .lit (.bool b)=>aQ (PS op) (some (.bool (!b))) none
 | .lit (.int k (.lit n))=>aQ (isNeg op) (some (.int k (k.wrap (0-n)))) none
 |_=>none
def aJE {op:UnOp} {x y:AV} (hx:unL op y=some x) (hv:VA F g v y):∃u,same (unA op v)=some (u,[])/\VA F g u x:=by
 unfold unL at hx;split at hx
 ·obtain ⟨h1,h2⟩:=aV hx;cases h2;cases hv;exact ⟨_,by show same (aQ (PS op) (some (SV.bool _)) none)=_;rw[h1];rfl,.lit _⟩
 ·obtain ⟨h1,h2⟩:=aV hx;cases h2;cases hv;exact ⟨_,by show same (aQ (isNeg op) (some (SV.int _ _)) none)=_;rw[h1];rfl,.lit _⟩
 ·cases hx
def alP:UD->AV->Option AV
 | .int k,.lit (.int _ (.lit n))=>some (.int k (k.wrap n))
 | .string,.lit (.str s)=>some (.str s)
 | .string,.lit (.int _ (.lit n))=>some (.str (Utf8.encode n))
 |_,_=>none
def aCw {x y:AV} (hi:E.ty.get src=some i) (uQ:E.ty.get dst=some i2) (hx:alP i2.desc y=some x) (hv:VA F g v y):∃u,same (LZ E src dst v)=some (u,[])/\VA F g u x:=by
 have key:∃u,XP i2.desc v=some u/\VA F g u x:=by
  generalize i2.desc=d at hx;unfold alP at hx;split at hx<;>first|(cases hx;done)|(cases hx;cases hv;exact ⟨_,rfl,.lit _⟩)
 obtain ⟨u,u1,u2⟩:=key;refine ⟨u,?_,u2⟩;show same (bT (E.ty.get src) (E.ty.get dst) λ_ i=>XP i.desc v)=_
 rw[hi,uQ];show same (XP i2.desc v)=_;rw[u1];rfl
end
end Go.bX
end
