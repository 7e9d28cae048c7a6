/- Part. -/
import Derived.Test.YtbnkhmoelnfjoaaGreatP1
import Derived.ProofKit
import Derived.OpenShut
set_option linter.all false
open Option renaming some->V,none->G
open Bool renaming true->M,false->I
open Nat renaming beq->ku,add->wW,ble->kQ,mul->B',succ->LJ,div->U'
open Go renaming TypeId->pJ,Operand->Ew,Program->J5,IntKind->O',BinOp->X'
open Decidable renaming decide->iL
open List renaming replicate->V',length->aa9,range->aa1
open Go.CallsIn renaming mono->aa4
open Go.Lib renaming compareBytes->aa2
open Go.Op renaming bytesLess->N'
open Go.Utf8 renaming decode->Z'
open Go.Extern.BytealgCompare renaming compare->ad0
noncomputable section
namespace Go.bM
open Go.RowKit
variable {P:J5} {k A o new:Nat} {svs cs aa:bc} {us:fG} {x v:SV} {e t:pJ} {cur:jw} {ups:gO} {i:TI}
section
variable {E:Env} {g:Gh} {f:Hf} {w:World}
def aBf {k:FuncId} (h:YR P k) (args:jw) (w:World):(callFunc k args).run P w= .ok (.enter k args) w:=by
 let ⟨fn,h1,h2,h3⟩:=h;rcases yF h1 h2 args w with ⟨_,hc⟩|hc
 ·exact absurd hc h3
 ·exact hc
def aBI {B C:Nat} (h1:A<=B) (h2:B<=C) (h3:C<=svs.length) (t:Nat):(B8 A B C svs)[t]? =if t<A then svs[t]? else if t<A+(C-B) then svs[t+(B-A)]? else if t<C then V SV.undef else svs[t]? :=by
 have e:B8 A B C svs=svs.take A++((svs.drop B).take (C-B)++(V' (B-A) SV.undef++svs.drop C)):=rfl;rw[e,sj,dz,fo (by omega)]
 by_cases q1:t<A
 ·rw[aG q1,aG q1,eZ,aG q1]
 ·rw[aC q1,aC q1,sj,dz,jx,fo (by omega)]
  by_cases q2:t<A+(C-B)
  ·rw[aG (by omega),aG q2,eZ,aG (by omega),fp]
   congr 1;omega
  ·rw[aC (by omega),aC q2,sj,vY]
   by_cases q3:t<C
   ·rw[aG (by omega),aG q3,List.getElem?_replicate,aG (by omega)]
   ·rw[aC (by omega),aC q3,fp]
    congr 1;omega
def aBH {B C:Nat} (h1:A<=B) (h2:B<=C) (h3:C<=svs.length):(B8 A B C svs).length=svs.length:=by
 show (svs.take A++((svs.drop B).take (C-B)++(V' (B-A) SV.undef++svs.drop C))).length=_;simp;omega
def mZ.three {y z:SV} (h:mZ g us [x,y,z]):∃a b c,us= [a,b,c]/\VR g a x/\VR g b y/\VR g c z:=by
 cases h with|cons h1 ht=>cases ht with|cons h2 ht=>cases ht with|cons h3 ht=>cases ht;exact ⟨_,_,_,rfl,h1,h2,h3⟩
def Cells.at {id b:Nat} (h:Cells g w id b o e cs):∃cur:jw,w.heap[b]? =V (.cells cur e (0,0))/\o+g.lim id<=cur.size/\o+cs.length<=cur.size/\∀(t:Nat) (x:SV),cs[t]? =V x->∃v,cur[o+t]? =V v/\v.oneCell'=M/\VR g v x:=by
 let ⟨⟨cur,m1,m0,vs,m2,m3⟩,m4⟩:=h;refine ⟨cur,m1,m0,?_,λt x hx=> ?_⟩
 ·have hl:=m2.length;rcases RS cs.length with q|q
  ·omega
  ·have:=m3 (cs.length-1) _ (cZ (by omega))
   have:=(oj.1 this).1;omega
 ·let ⟨v,v1,v2,v3⟩:=m2.get hx;exact ⟨v,m3 t v v1,v2,v3⟩
def hY.avS (h4:∀(t:Nat) (x:SV),cs[t]? =V x->∃v,cur[o+t]? =V v/\v.oneCell'=M/\VR g v x):∃vs,hY g vs cs/\∀(j:Nat) (v:Value),vs[j]? =V v->cur[o+j]? =V v:=by
 refine ⟨(cur.toList.drop o).take cs.length,hY.mk ?_ λj v x hv hx=> ?_,λj v hv=> ?_⟩
 ·rcases RS cs.length with q|q
  ·rw[q];simp
  ·let ⟨v,a,_,_⟩:=h4 (cs.length-1) _ (cZ (by omega))
   have:=(oj.1 a).1;simp;omega
 ·let ⟨v',a,b,c⟩:=h4 j x hx;have hj:=(bO.1 hx).1;rw[eZ,aG hj,fp,l5,a] at hv;cases hv;exact ⟨b,c⟩
 ·rw[eZ] at hv;split at hv
  ·rw[fp,l5] at hv;exact hv
  ·cases hv
def Cells.mk' {id b:Nat} (h1:w.heap[b]? =V (.cells cur e (0,0))) (h2:o+g.lim id<=cur.size) (h3:g.et id=e) (h4:∀(t:Nat) (x:SV),cs[t]? =V x->∃v,cur[o+t]? =V v/\v.oneCell'=M/\VR g v x):Cells g w id b o e cs:=by
 let ⟨vs,a,b⟩:=hY.avS h4;exact ⟨⟨cur,h1,h2,vs,a,b⟩,h3⟩
def S3:∀{l:bc} {xs:List Int},JC l=V xs->l=fq xs
 | [],xs,h=>by cases h;rfl
 |v::l,xs,h=>by
  let ⟨x,r,h1,h2,h3⟩:=bU (show cC (LY v) (JC l) (λx r=>V (x::r))=V xs from h)
  cases h3;rw[S3 h2];unfold LY at h1;split at h1
  ·cases h1;rfl
  ·cases h1
def MI:∀xs:List Int,(lP xs).length<=xs.length
 | []=>de _
 | [x]=>de _
 |x::y::l=>by
  have:=MI (y::l);show (if x=y then lP (y::l) else x::lP (y::l)).length<=_
  split
  ·exact Nat.le_succ_of_le this
  ·exact Nat.succ_le_succ this
def afZ (x:Int):∀ys:List Int,(B4 x ys).length=ys.length+1
 | []=>rfl
 |y::ys=>by
  unfold B4;split
  ·rfl
  ·rw[iu,afZ x ys];rfl
def Zj:∀xs:List Int,(eX xs).length=xs.length
 | []=>rfl
 |x::xs=>by rw[eX,afZ,Zj xs];rfl
def axu (b:Bool) (xs:List Int):(CG b xs).length=xs.length:=by
 cases b
 ·have:=MI xs;show (lP xs++V' (xs.length-(lP xs).length) 0).length=_;rw[gy,vY];omega
 ·exact Zj xs
def mZ.one (h:mZ g us [x]):∃a,us= [a]/\VR g a x:=by
 cases h with|cons h1 ht=>cases ht;exact ⟨_,rfl,h1⟩
def axt {z:Bool} (hP:TP E.P k z) (h:HR g f w) (oc:mZ g us aa) (ho:aaK z f aa=V (v,ups)) (m:Nat):
  YR E.P k/\CallsIn Fence.wide m E.P k us.toArray w λe w'=>∃r g',e= .returned r/\hZ g f w v ups new r g' w':=by
 let ⟨Ec,h0,h1⟩:=hP;refine ⟨Ec,?_⟩;unfold aaK at ho;split at ho
 ·cases ho;obtain ⟨a,rfl,q⟩:=oc.one;cases q;refine aa4 (h0 m w G 0) ?_;rintro e w' ⟨rfl,e1,e2,e3,e4⟩;have hs:TK w w':=⟨e2,e3,e4,by rw[e1];exact de _,λb _=>by rw[e1]⟩
  refine ⟨_,g,rfl,?_,h.grow hs.size hs.heap,⟨hs.os,hs.tape,hs.output,hs.size,.refl _,λb hb _=>hs.heap b hb,λb hb hm=>hm⟩,λ_ _=>rfl,λ_=>rfl⟩
  cases z
  ·exact .cq
  ·exact .dr .nil
 ·rename_i id off n cp;rw[cE] at ho;split at ho
  ·rename_i hn0;have hn0:n=0:=(beq_iff _ _).1 hn0;subst hn0;cases ho;obtain ⟨a,rfl,q⟩:=oc.one;cases q with
   | @sl _ _ _ b o c _ hρ vE jr vF=>
   refine aa4 (h0 m w (V ⟨b,o+off,G⟩) c) ?_;rintro e w' ⟨rfl,e1,e2,e3,e4⟩;have hs:TK w w':=⟨e2,e3,e4,by rw[e1];exact de _,λb _=>by rw[e1]⟩
   refine ⟨_,g,rfl,?_,h.grow hs.size hs.heap,⟨hs.os,hs.tape,hs.output,hs.size,.refl _,λb hb _=>hs.heap b hb,λb hb hm=>hm⟩,λ_ _=>rfl,λ_=>rfl⟩
   cases z
   ·exact .sl hρ (uq _) jr vF
   ·exact .dr .nil
  let ⟨p,hp,ho⟩:=aq ho;let ⟨xs,hx,ho⟩:=aq ho;let ⟨hc,ho⟩:=ba ho;simp only[bG] at hc;let ⟨c0,c1,c2⟩:=hc;have c0:1<=n:=(bR _ _).1 c0;have c1:off+n<=p.2.length:=(bR _ _).1 c1;have c2:n<=4294967295:=(bR _ _).1 c2;cases ho;have hf:=rS hp;have hxs:=S3 hx;have hn:xs.length=n:=by
   have:=bF aa9 hxs;simp[fq] at this;omega
  subst hn;obtain ⟨a,rfl,q⟩:=oc.one;cases q with
  | @sl _ _ _ b o c _ hρ vE jr vF=>
  have oS:Cells g w id b o p.1 p.2:=(h.at hf hρ).2;let ⟨cur,m1,m0,ml,m2⟩:=oS.at;have nU:∀t x,xs[t]? =V x->p.2[off+t]? =V (.int .i64 (.lit x)):=λt x sP=>by
   have hl:=(bO.1 sP).1;have e:=bF (λl=>l[t]?) hxs
   rw[eZ,aG hl,fp] at e;rw[e,fq,nQ,sP];rfl
  refine aa4 (h1 m w b (o+off) c xs cur p.1 m1 (by omega) c2 vE λt x sP=> ?_) ?_
  ·let ⟨u,u1,_,u3⟩:=m2 _ _ (nU t x sP);cases u3 with|int _ _ e=>
   have e:_=x:=e;subst e;rw[gD];exact u1
  rintro e w' ⟨rfl,w1,jP,hw,hs,oA,r1,r2⟩;have hgl:=axu z xs;have agw:Cells g w1 id b o p.1 (p.2.take off++(fq (CG z xs)++p.2.drop (off+xs.length))):=Cells.mk' hw.heap (by rw[oA];exact m0) oS.et λt x sP=>by
   rw[sj,dz,fo (by omega)] at sP
   split at sP
   ·rename_i ht;rw[eZ,aG ht] at sP;rw[r1 (o+t) (.inl (by omega))];exact m2 t x sP
   ·rename_i ht;rw[sj,fq,mL,hgl] at sP;split at sP
    ·rename_i ht2;rw[nQ] at sP;cases hy:(CG z xs)[t-off]? with
     |none=>rw[hy] at sP;cases sP
     |some y=>
      rw[hy] at sP;cases sP;have:=r2 _ _ hy;rw[show o+off+(t-off)=o+t by omega] at this
      exact ⟨_,this,rfl,.int _ _ rfl⟩
    ·rename_i ht2;rw[fp] at sP;rw[r1 (o+t) (.inr (by omega))]
     have:=m2 _ x sP;rw[show o+t=o+(off+xs.length+(t-off-xs.length)) by omega]
     exact this
  let ⟨t1,t2⟩:=h.write (o':=.cells p.1 _) hf hρ hw.size hw.KV agw hw.os hw.tape hw.output;have t3:=t1.grow hs.size hs.heap;refine ⟨_,g,rfl,?_,t3,?_,λ_ _=>rfl,λ_=>rfl⟩
  ·cases z
   ·have:=MI xs;exact .sl hρ (by show (lP xs).length<=c;omega) jr vF
   ·exact .dr .nil
  ·exact t2.trans ⟨hs.os,hs.tape,hs.output,hs.size,.refl _,λb hb _=>hs.heap b hb,λb hb hm=>hm⟩
 ·cases ho
def avp (hE:fJ E g) {c:Nat} (hP:Ke E k c) (h:HR g f w) (hn:g.O new=G) (oc:mZ g us aa) (ho:xk E c f new aa=V (v,ups)) (m:Nat):
  YR E.P k/\CallsIn Fence.wide m E.P k us.toArray w λe w'=>∃r g',e= .returned r/\hZ g f w v ups new r g' w':=by
 unfold xk at ho;rw[cE] at ho;split at ho
 ·rename_i aAZ;exact axt (hP.1 ((bR _ _).1 aAZ)) h oc ho m
 rename_i aAZ;let ⟨ie,hie,ho⟩:=aq ho;let ⟨hd,hi⟩:=hP.2 (by
  by_cases hc:c<1048576
  ·exact hc
  ·exact absurd ((bR _ _).2 (by omega)) aAZ) ie hie
 rw[cE] at ho;split at ho
 ·rename_i h0;let ⟨Ec,hd⟩:=hd ((beq_iff _ _).1 h0);refine ⟨Ec,?_⟩;unfold aqN at ho;split at ho;rotate_left
  ·cases ho
  rename_i id off n cp a b _;let ⟨i,j,p,ha,hb,hp,ho⟩:=CM ho;let ⟨hc,ho⟩:=ba ho;simp only[bG] at hc;let ⟨c1,c2,c3⟩:=hc;have c1:i<j:=(bR _ _).1 c1;have c2:j<=n:=(bR _ _).1 c2;have c3:off+n*ie.size<=p.2.length:=(bR _ _).1 c3;cases ho;obtain rfl:=Ff ha;obtain rfl:=Ff hb;obtain ⟨x,y,z,rfl,q1,q2,q3⟩:=oc.three;have hf:=rS hp;cases q2 with|int _ _ e2=>cases q3 with|int _ _ e3=>
  have e2:_=(i:Int):=e2;have e3:_=(j:Int):=e3;subst e2;subst e3;cases q1 with
  | @sl _ _ _ b o c _ hρ vE jr vF=>
  have oS:Cells g w id b o p.1 p.2:=(h.at hf hρ).2;let ⟨cur,m1,m0,ml,m2⟩:=oS.at;have hA:i*ie.size<=j*ie.size:=js _ (by omega)
  have hB:j*ie.size<=n*ie.size:=js _ c2;refine aa4 (hd m w b (o+off) n c i j cur p.1 m1 (by omega) (λt ht u hu=> ?_) c1 c2 vE) ?_
  ·let ⟨u',u1,u2,_⟩:=m2 (off+t) _ (cZ (by omega))
   rw[<-gD,hu] at u1;cases u1;exact u2
  rintro e w' ⟨rfl,jP,hw,hs,r1,r2,r3⟩;have agw:Cells g w' id b o p.1 (B8 (off+i*ie.size) (off+j*ie.size) (off+n*ie.size) p.2):=Cells.mk' hw.heap (by rw[hs];exact m0) oS.et λt x hx=>by
   rw[aBI (by omega) (by omega) (by omega)] at hx
   split at hx
   ·rw[r1 (o+t) (.inl (by omega))];exact m2 t x hx
   ·split at hx
    ·have:=r2 (t-(off+i*ie.size)) (by omega)
     rw[show o+off+i*ie.size+(t-(off+i*ie.size))=o+t by omega,show o+off+j*ie.size+(t-(off+i*ie.size))=o+(t+(off+j*ie.size-(off+i*ie.size))) by omega] at this
     rw[this];exact m2 _ x hx
    ·split at hx
     ·cases hx;let ⟨u,u1,u2⟩:=r3 (t-(off+i*ie.size+(n*ie.size-j*ie.size))) (by omega)
      rw[show o+off+i*ie.size+(n*ie.size-j*ie.size)+(t-(off+i*ie.size+(n*ie.size-j*ie.size)))=o+t by omega] at u1
      exact ⟨u,u1,u2,.undef u⟩
     ·rw[r1 (o+t) (.inr (by omega))];exact m2 t x hx
  let ⟨t1,t2⟩:=h.write (o':=.cells p.1 _) hf hρ hw.size hw.KV agw hw.os hw.tape hw.output;exact ⟨_,g,rfl,.sl hρ (by show n-(j-i)<=c;omega) jr vF,t1,t2,λ_ _=>rfl,λ_=>rfl⟩
 ·rename_i h0;let ⟨Ec,hi⟩:=hi (λe=>h0 ((beq_iff _ _).2 e))
  refine ⟨Ec,?_⟩;unfold apP at ho;split at ho;rotate_left
  ·cases ho
  rename_i id off n cp a Fp xz q c2 _;let ⟨i,p,p2,ha,hp,hp2,ho⟩:=CM ho;let ⟨hc,ho⟩:=ba ho;simp only[bG] at hc;let ⟨c1,c3,c4,c5,c6,c7,c8,c9,c10⟩:=hc;have c1:i<=n:=(bR _ _).1 c1;have c3:1<=q:=(bR _ _).1 c3;have c4:n<=1000000:=(bR _ _).1 c4;have c5:q<=1000000:=(bR _ _).1 c5;have c6:id≠Fp:=λe=>by rw[(beq_iff _ _).2 e] at c6;cases c6
  have c7:p.1=U' c 2:=(beq_iff _ _).1 c7;have c8:off+n*ie.size<=p.2.length:=(bR _ _).1 c8;have c9:xz+q*ie.size<=p2.2.length:=(bR _ _).1 c9;cases ho;obtain rfl:=Ff ha;obtain ⟨x,y,z,rfl,q1,q2,q3⟩:=oc.three;have hf:=rS hp;have hf2:=rS hp2;cases q2 with|int _ _ e2=>
  have e2:_=(i:Int):=e2;subst e2;cases q1 with
  | @sl _ _ _ b o cc _ hρ vE jr vF=>
  cases q3 with
  | @sl _ _ _ b2 o2 cc2 _ hρ2 hnc2 aEF hlim2=>
  have oS:Cells g w id b o p.1 p.2:=(h.at hf hρ).2;have aKb:Cells g w Fp b2 o2 p2.1 p2.2:=(h.at hf2 hρ2).2;let ⟨cur,m1,m0,ml,m2⟩:=oS.at;let ⟨aqQ,n1,n0,nl,n2⟩:=aKb.at;have hbb:b2≠b:=λe=>c6 (h.inj id Fp _ _ b o o2 hf hf2 hρ (by rw[<-e];exact hρ2))
  have nv:o+off+cc*ie.size<=cur.size:=by
   cases cp with
   |k c0=>
    have:=jr c0 rfl;subst this;have:off+cc*ie.size<=p.2.length:=(bR _ _).1 c10;omega
   |u e0=>
    let ⟨l1,l2⟩:=vF e0 rfl;have:g.sz e0=ie.size:=by rw[<-l1,oS.et,c7];exact hE.size hie
    rw[this] at l2;omega
  refine aa4 (hi m w b (o+off) n cc i b2 (o2+xz) q cc2 cur aqQ p2.1 (by rw[m1,c7];rfl) n1 hbb nv (by omega) (λt ht u hu=> ?_) (λt ht u hu=> ?_) vE c4 c3 c5 c1) ?_
  ·let ⟨u',u1,u2,_⟩:=m2 (off+t) _ (cZ (by omega))
   rw[<-gD,hu] at u1;cases u1;exact u2
  ·let ⟨u',u1,u2,_⟩:=n2 (xz+t) _ (cZ (by omega))
   rw[<-gD,hu] at u1;cases u1;exact u2
  rintro e w' ⟨b',o',c',jP,rfl,hnc',hsz',nU,hw⟩;have hle:=Gh.HF (g:=g) (p:=(b',o')) (l:=c'*ie.size) (e:=U' c 2) hn;have hxl:((p.2.drop off).take (n*ie.size)).length=n*ie.size:=by simp;omega
  have hyl:((p2.2.drop xz).take (q*ie.size)).length=q*ie.size:=by simp;omega
  have hXl:((cur.toList.drop (o+off)).take (n*ie.size)).length=n*ie.size:=by simp;omega
  have hYl:((aqQ.toList.drop (o2+xz)).take (q*ie.size)).length=q*ie.size:=by simp;omega
  have jq:i*ie.size<=n*ie.size:=js _ c1;have aED:∀(t:Nat) (x:SV),(B5 ((p.2.drop off).take (n*ie.size)) (i*ie.size) ((p2.2.drop xz).take (q*ie.size)))[t]? =V x->∃v,jP[o'+t]? =V v/\v.oneCell'=M/\VR g v x:=λt x hx=>by
   have hl:t<n*ie.size+q*ie.size:=by
    have:=(bO.1 hx).1;simp[B5] at this;omega
   rw[nU t (by rw[fW];exact hl)]
   show ∃v,((((cur.toList.drop (o+off)).take (n*ie.size)).take (i*ie.size))++(((aqQ.toList.drop (o2+xz)).take (q*ie.size))++(((cur.toList.drop (o+off)).take (n*ie.size)).drop (i*ie.size))))[t]? =V v/\_;have hx:((((p.2.drop off).take (n*ie.size)).take (i*ie.size))++(((p2.2.drop xz).take (q*ie.size))++(((p.2.drop off).take (n*ie.size)).drop (i*ie.size))))[t]? =V x:=hx;have src:∀s,s<n*ie.size->∀x,((p.2.drop off).take (n*ie.size))[s]? =V x->∃v,((cur.toList.drop (o+off)).take (n*ie.size))[s]? =V v/\v.oneCell'=M/\VR g v x:=λs hs x hx=>by
    rw[eZ,aG hs,fp] at hx;let ⟨v,a,b,c⟩:=m2 _ x hx;exact ⟨v,by rw[eZ,aG hs,fp,l5,gD];exact a,b,c⟩
   have src2:∀s,s<q*ie.size->∀x,((p2.2.drop xz).take (q*ie.size))[s]? =V x->∃v,((aqQ.toList.drop (o2+xz)).take (q*ie.size))[s]? =V v/\v.oneCell'=M/\VR g v x:=λs hs x hx=>by
    rw[eZ,aG hs,fp] at hx;let ⟨v,a,b,c⟩:=n2 _ x hx;exact ⟨v,by rw[eZ,aG hs,fp,l5,gD];exact a,b,c⟩
   rw[sj] at hx ⊢;rw[dz,hxl,fo jq] at hx;rw[dz,hXl,fo jq];by_cases q1:t<i*ie.size
   ·rw[aG q1,eZ,aG q1] at hx;rw[aG q1,eZ,aG q1];exact src t (by omega) x hx
   ·rw[aC q1,sj,hyl] at hx;rw[aC q1,sj,hYl];by_cases q2:t-i*ie.size<q*ie.size
    ·rw[aG q2] at hx;rw[aG q2];exact src2 _ q2 x hx
    ·rw[aC q2,fp] at hx;rw[aC q2,fp];exact src _ (by omega) x hx
  have HL:∀{h3:w'.heap[b']? =V (.cells jP (U' c 2) (0,0))},OR (g.bind new (b',o') (c'*ie.size) (U' c 2)) w' new b' o' (.cells (U' c 2) (B5 ((p.2.drop off).take (n*ie.size)) (i*ie.size) ((p2.2.drop xz).take (q*ie.size)))):=λ{h3}=>
   Cells.mk' h3 (by rw[Gh.Aq];exact hsz') (Gh.Dl _ _ _ _ _) λt x hx=>by
    let ⟨v,a,b,c⟩:=aED t x hx;exact ⟨v,a,b,c.mono hle⟩
  have QX:VR (g.bind new (b',o') (c'*ie.size) (U' c 2)) (.slice (V ⟨b',o',G⟩) (n+q) c') (.sl new 0 (n+q) (.u (U' c 2))):=
   .sl (id:=new) (off:=0) (o:=o') (b:=b') (cap:=.u (U' c 2)) (Gh.jZ _ _ _ _ _) hnc' (λk hk=>by cases hk) (λe' he=>by
    cases he;refine ⟨Gh.Dl _ _ _ _ _,?_⟩;rw[Gh.Aq];show 0+c'*g.sz (U' c 2)<=_;rw[hE.size hie];omega)
  rcases hw with ⟨rfl,rfl,hw⟩|⟨rfl,rfl,hw⟩
  ·let ⟨t1,t2⟩:=h.rename (o':=.cells (U' c 2) (B5 ((p.2.drop off).take (n*ie.size)) (i*ie.size) ((p2.2.drop xz).take (q*ie.size)))) hn hf hρ hw.size hw.KV (HL (h3:=hw.heap)) hw.os hw.tape hw.output;exact ⟨_,_,rfl,QX,t1,t2,λk hk=>Gh.mn _ _ _ _ hk,λD9=>by cases D9⟩
  ·let ⟨k1,k2⟩:=h.kill id;let ⟨vs,a1,a2⟩:=hY.avS aED;have sQ:w'=World.alloc {w' with heap:=w.heap} (.cells jP (U' c 2)):=by
    show w'={w' with heap:=w.heap.push (.cells jP (c / 2) (0,0))}
    rw[<-hw.heap]
   exact ⟨_,_,rfl,(k1.row hn (w0:={w' with heap:=w.heap}) ⟨rfl,hw.os,hw.tape,hw.output⟩ sQ a1 (λj v hv=>by rw[<-cg j];exact a2 j v hv) (by omega) QX).kill h⟩
section
variable {τ:Nat->Nat} {D:Nat->Prop} [DecidablePred D] {S:bJ}
end
section
variable {τ:Nat->Nat}
end
def ZK (a b:U):aa2 a.data.toList b.data.toList=MN a b:=by
 have key:∀(l m:List UInt8),aa2 l m=if Dk l m=M then -1 else if uf l m=M then 0 else 1:=by
  intro l;induction l with
  |nil=>intro m;cases m<;>simp[aa2,Dk,uf]
  |cons x l ih=>
   intro m;cases m with
   |nil=>simp[aa2,Dk,uf]
   |cons y m=>
    unfold aa2 Dk uf;rw[ih m,cE,cE,ble_eq,beq_eq];have h1:(x<y)↔x.toNat+1<=y.toNat:=by rw[UInt8.lt_iff_toNat_lt];omega
    have h2:(y<x)↔y.toNat<x.toNat:=UInt8.lt_iff_toNat_lt;by_cases HH:x<y
    ·simp[HH,h1.1 HH]
    ·by_cases hyx:y<x
     ·have a1:¬(x.toNat+1<=y.toNat):=λh=>HH (h1.2 h)
      have a2:¬(x.toNat=y.toNat):=λh=>by have:=h2.1 hyx;omega
      simp[HH,hyx,a1,a2]
     ·have a1:¬(x.toNat+1<=y.toNat):=λh=>HH (h1.2 h)
      have a3:¬(y.toNat<x.toNat):=λh=>hyx (h2.2 h)
      have a2:x.toNat=y.toNat:=by omega
      have a4:¬(y.toNat+1<=y.toNat):=by omega
      simp[HH,hyx,a2,a4]
 rw[key];unfold MN;rw[cE,cE]
end
section
variable {E:Env} {g:Gh} {f:Hf} {w:World}
def gh0 (P:J5) (η:Nat->Int):Gh:=⟨η,P.cellsOf,λ_=>G,λ_=>0,λ_=>0,λ_=>G⟩
def tN {J:Type} (Q:Nat->J->Prop):Tr J->(Nat->Nat)->Prop
 | .nil,_=>True
 | .node l v r,Y=>(match v with|none=>True|some x=>Q (Y 0) x)/\tN Q l (λj=>Y (2*j+1))/\tN Q r (λj=>Y (2*j+2))
def tN.get {J:Type} {Q:Nat->J->Prop}:∀{t:Tr J} {Y:Nat->Nat},tN Q t Y->∀i x,t.get i=V x->Q (Y i) x
 | .nil,_,_,i,x,h=>by cases h
 | .node l v r,Y,⟨h1,h2,h3⟩,i,x,h=>by
  rw[Tr.Ej] at h;split at h
  ·rename_i e;subst e;subst h;exact h1
  ·split at h
   ·rename_i e1 e2;have:=tN.get h2 _ x h;have e:2*(i / 2)+1=i:=by omega
    simp only[e] at this;exact this
   ·rename_i e1 e2;have:=tN.get h3 _ x h;have e:2*(i / 2-1)+2=i:=by omega
    simp only[e] at this;exact this
def Wk:TypeDesc->UD
 | .bool=>.bool
 | .int k=>.int k
 | .string=>.string
 | .pointer _=>.pointer
 | .slice e=>.slice e
 | .array n e=>.array n e
 | .map k e=>.map k e
 | .struct fs=>.struct (fs.toList.map λf=>FL.mk f.type f.offset (!(f.name== "_")))
 | .func _ _ _=>.func
 | .interface _=>.interface
 |_=>.other
def S4 (P:J5):List Field->Bool
 | []=>M
 |f::fs=>(P.info? f.type).isSome&&S4 P fs
def aQK (P:J5):TypeDesc->Bool
 | .struct fs=>S4 P fs.toList
 | .bool| .int _| .string| .pointer _| .slice _| .array _ _| .map _ _| .func _ _ _| .interface _=>M
 |_=>I
def TH:fG->Bool
 | []=>M
 |v::vs=>v.oneCell'&&TH vs
def afU:Value->Bool
 | .agg _=>M
 |_=>I
def aCC (agg:Bool) (size:Nat) (z:Value):Bool:=TH z.cells.toList&&aT agg (afU z&&ku z.cells.toList.length size) z.oneCell'
def aoH (P:J5) (t:pJ):Z TI:=
 cC (P.underlying t) (P.info? t) λd f=>az f.zero λz=>aT (aQK P d&&aCC (mT (Wk d)) f.size z) (V ⟨Wk d,f.size,f.bytes,tL z.cells.toList,f.comparable⟩) G
def Qd {P:J5}:∀{fs:List Field},S4 P fs=M->∀f∈fs,(P.info? f.type).isSome=M
 | [],_,f,hf=>by simp at hf
 |x::fs,h,f,hf=>by
  unfold S4 at h;rw[bG] at h;rcases da.1 hf with rfl|hf
  ·exact h.1
  ·exact Qd h.2 f hf
def TF (g:Gh):∀{vs:fG},TH vs=M->hY g vs (tL vs)
 | [],_=>.nil
 |v::vs,h=>by
  unfold TH at h;rw[bG] at h;exact .cons h.1 (yU g v) (TF g h.2)
def FF:∀(vs:fG),(tL vs).length=vs.length
 | []=>rfl
 |v::vs=>by show (wy v::tL vs).length=_;simp[FF vs]
def atV (h:aoH P t=V i):EC P t i:=by
 let ⟨d,fi,hd,hf,h⟩:=bU h;let ⟨z,hz,h⟩:=aq h;let ⟨hc,h⟩:=ba h;cases h;rw[bG] at hc;let ⟨hdb,Cm⟩:=hc;unfold aCC at Cm;rw[bG] at Cm;let ⟨ha,Cm⟩:=Cm;refine ⟨?_,fi,z,hf,rfl,rfl,rfl,hz,⟨λg=>TF g ha,λEg=> ?_,λEg=> ?_⟩,λEg=> ?_⟩
 ·show Nb P t (Wk d);cases d<;>first
   |exact hd
   |exact ⟨_,hd⟩
   |exact ⟨_,_,_,hd⟩
   |(
    refine ⟨_,hd,?_,Qd hdb⟩
    refine vj λf _=> ?_
    by_cases hn:f.name= "_" <;>simp[hn])
   |(cases hdb;done)
 ·have Eg:mT (Wk d)=M:=Eg;rw[Eg] at Cm;have Cm:(afU z&&ku z.cells.toList.length fi.size)=M:=Cm;rw[bG] at Cm;cases z<;>first|exact ⟨_,rfl⟩|(cases Cm.1;done)
 ·have Eg:mT (Wk d)=I:=Eg;rw[Eg] at Cm;exact Cm
 ·have Eg:mT (Wk d)=M:=Eg;rw[Eg] at Cm;have Cm:(afU z&&ku z.cells.toList.length fi.size)=M:=Cm;rw[bG] at Cm;show (tL z.cells.toList).length=fi.size;rw[FF];exact (beq_iff _ _).1 Cm.2
end
end Go.bM
namespace Go.bM
variable {done:List (Nat×SV)} {aoG:List (Nat×Nat)} {memo stop:bJ} {η:Nat->Int}
section
def Hx (fn:Func):Bool:=fn.body.isSome|| !(fn.name== "internal/bytealg.abigen_runtime_cmpstring")
def aUk (P:J5) (k:Nat) (fn:Func):Prop:=P.funcs[k]? =V fn/\aqo fn=M/\(Hx fn=M\/(Extern.findNext fn=G/\Extern.find fn=V ad0))
def aUi (P:J5) (t:Nat) (i:TI):Prop:=aoH P t=V i
structure abd (P:J5) (ty:Tr TI) (fn:Tr Func):Prop where
 ty:tN (aUi P) ty id
 fn:tN (aUk P) fn id
 mix:P.follows .mixedOrders=M
variable {P:J5} {ty:Tr TI} {fn:Tr Func}
def abd.aQI (h:abd P ty fn) {lt eq:List (SI×SI×Bool)} {join:bJ} (dq:∀a b r,(a,b,r)∈lt->iL (a.ev η<b.ev η)=r) (heq:∀a b r,(a,b,r)∈eq->iL (a.ev η=b.ev η)=r):
  fJ ⟨P,ty,fn,lt,eq,done,join,aoG,memo,stop⟩ (gh0 P η):=
 ⟨λt i hi=>atV (tN.get h.ty t i hi),λf x hx=>(tN.get h.fn f x hx).1,dq,heq,h.mix,λ_=>rfl⟩
end
end Go.bM
namespace Go.bM
open Go.RowKit

end Go.bM
namespace Go.bM
variable {P:J5} {fe:Func}
def alt {J:Type} (l:List J):Bool->List J:= @List.rec J (λ_=>Bool->List J) (λ_=> []) (λx _ ih b=>aT b (x::ih I) (ih M)) l
def acV {J:Type} (d:Nat):List (Z J)->Tr J:= @Nat.rec (λ_=>List (Z J)->Tr J) (λ_=>.nil) (λ_ ih l=> @List.rec (Z J) (λ_=>Tr J) .nil (λx xs _=>.node (ih (alt xs M)) x (ih (alt xs I))) l) d
def OY {J:Type}:∀(l:List J) (j:Nat),(alt l M)[j]? =l[2*j]? /\(alt l I)[j]? =l[2*j+1]?
 | [],j=>⟨by simp[alt],by simp[alt]⟩
 |x::l,j=>by
  have h1:alt (x::l) M=x::alt l I:=rfl;have h2:alt (x::l) I=alt l M:=rfl;rw[h1,h2];constructor
  ·cases j with
   |zero=>rfl
   |succ j=>rw[tR,(OY l j).2,show 2*(j+1)=(2*j+1)+1 by omega,tR]
  ·rw[(OY l j).1,tR]
def Jc {J:Type} {Q:Nat->J->Prop}:∀(d:Nat) (l:List (Z J)) (Y:Nat->Nat),(∀i x,l[i]? =V (V x)->Q (Y i) x)->tN Q (acV d l) Y
 |0,_,_,_=>trivial
 |d+1,[],_,_=>trivial
 |d+1,x::xs,Y,H=>by
  show tN Q (.node (acV d (alt xs M)) x (acV d (alt xs I))) Y;unfold tN;refine ⟨?_,Jc d _ _ λi y h=> ?_,Jc d _ _ λi y h=> ?_⟩
  ·cases x with
   |none=>trivial
   |some x=>exact H 0 x rfl
  ·rw[(OY xs i).1] at h;exact H (2*i+1) y (by rw[tR];exact h)
  ·rw[(OY xs i).2] at h;exact H (2*i+2) y (by rw[show 2*i+2=(2*i+1)+1 from rfl,tR];exact h)
def aCG (P:J5) (n:Nat):Tr TI:=acV 10 ((aa1 n).map (aoH P))
def aEH (P:J5):Tr Func:=acV 10 (P.funcs.toList.map V)
def aOw (e:Nat) (l:List Bool):Bool:= @List.rec Bool (λ_=>Nat->Bool) (λ_=>M) (λb _ ih k=>aT (b||ku k e) (ih (k+1)) I) l 0
def TJ {e:Nat}:∀(l:List Bool) (k i:Nat),(@List.rec Bool (λ_=>Nat->Bool) (λ_=>M) (λb _ ih k=>aT (b||ku k e) (ih (k+1)) I) l k)=M->l[i]? =V I->k+i=e
 | [],k,i,_,h=>by simp at h
 |b::l,k,i,h,hi=>by
  have h:aT (b||ku k e) (@List.rec Bool (λ_=>Nat->Bool) (λ_=>M) (λb _ ih k=>aT (b||ku k e) (ih (k+1)) I) l (k+1)) I=M:=h
  cases i with
  |zero=>
   have:b=I:=by simpa using hi
   subst this;cases hk:ku k e with
   |true=>exact Nat.eq_of_beq_eq_true hk
   |false=>rw[hk] at h;cases h
  |succ i=>
   cases hb:(b||ku k e) with
   |false=>rw[hb] at h;cases h
   |true=>
    rw[hb] at h;have:=TJ l (k+1) i h (by simpa using hi)
    omega
def aIZ (n e:Nat) (h0:(P.funcs.toList.all λf=>aqo f)=M) (h1:aOw e (P.funcs.toList.map Hx)=M) (he:P.funcs[e]? =V fe) (h2:Extern.findNext fe=G) (h3:Extern.find fe=V ad0) (hm:P.follows .mixedOrders=M):abd P (aCG P n) (aEH P):=by
 refine ⟨Jc _ _ _ λi x h=> ?_,Jc _ _ _ λi x h=> ?_,hm⟩
 ·rw[nQ] at h;cases hr:(aa1 n)[i]? with
  |none=>rw[hr] at h;cases h
  |some j=>
   rw[hr] at h;have hj:aoH P j=V x:=by simpa using h
   have:=bO.1 hr;let ⟨h1,h2⟩:=this;have e:i=j:=by simpa using h2
   subst e;exact hj
 ·rw[nQ] at h;cases hr:P.funcs.toList[i]? with
  |none=>rw[hr] at h;cases h
  |some f=>
   rw[hr] at h;have hf:f=x:=by simpa using h
   subst hf;have hm:f∈P.funcs.toList:=bQ hr;have hp:P.funcs[i]? =V f:=by simpa using hr
   refine ⟨hp,jJ.1 h0 f hm,?_⟩;cases hb:Hx f with
   |true=>exact .inl rfl
   |false=>
    have:=TJ (e:=e) (P.funcs.toList.map Hx) 0 i h1 (by rw[nQ,hr];simp[hb])
    have ei:i=e:=by omega
    subst ei;rw[hp] at he;cases he;exact .inr ⟨h2,h3⟩
end Go.bM
section
namespace Go.bM
open Go.RowKit
variable {x y c:Code} {ops:eP} {i new nx' nx:Nat} {o:Oper} {v:SV} {us:gO} {k:FuncId} {fn:Func} {H:Hf}
structure MS where
 T:Tf
 H:Hf
 nx:Nat
structure Now (E:Env) (nt:Nat) (g:Gh) (m:MS) (a:Act) (w:World):Prop where
 env:fJ E g
 fr:FR g nt m.T a.tmps
 hr:HR g m.H w
 fresh:∀x,m.nx<=x->g.O x=G
structure xJ (g:Gh) (m:MS) (w:World) (a:Act) (g':Gh) (m':MS) (w':World) (a':Act):Prop where
 fr:Fr g m.H w g' m'.H w'
 df:a'.defers=a.defers
 ro:∀x,x<m.nx->g'.O x=g.O x
 nx:m.nx<=m'.nx
variable {E:Env} {nt:Nat} {g g1 g2:Gh} {m m1 m2:MS} {a a1 a2:Act} {w w1 w2:World} {e:Ex}
def xJ.refl:xJ g m w a g m w a:=⟨Fr.refl _ _ _,rfl,λ_ _=>rfl,de _⟩
def xJ.trans (h:xJ g m w a g1 m1 w1 a1) (k:xJ g1 m1 w1 a1 g2 m2 w2 a2):xJ g m w a g2 m2 w2 a2:=
 ⟨h.fr.trans k.fr,k.df.trans h.df,λx hx=>(k.ro x (A6 hx h.nx)).trans (h.ro x hx),kY h.nx k.nx⟩
def gj (E:Env) (nt:Nat) (c:Code) (m:MS) (e:Ex) (m':MS):Prop:=codeOk c=M->∀(ro:cD) (k:Nat) (g:Gh) (a:Act) (w:World) (Q:Exit->Act->World->Prop),Now E nt g m a w->
 (∀g' a' w' x,ExR g' e x->Now E nt g' m' a' w'->xJ g m w a g' m' w' a'->Q x a' w')->wpX (wC ro) k E.P c Q a w
namespace gj
def skip:gj E nt .skip m .normal m:=λ_ _ _ _ _ _ _ n h=>wpIn_skip (h _ _ _ _ .normal n .refl)
def exit {id:Nat}:gj E nt (.exit id) m (.exit id) m:=λ_ _ _ _ _ _ _ n h=>wpIn_exit (h _ _ _ _ (.exit id) n .refl)
def ret:gj E nt .ret m .ret m:=λ_ _ _ _ _ _ _ n h=>wpIn_ret (h _ _ _ _ .ret n .refl)
def seq (h1:gj E nt x m .normal m1) (h2:gj E nt y m1 e m2):gj E nt (.seq x y) m e m2:=λok ro k g a w Q n h=>
 wpIn_seq (sA (h1 (okL ok) ro k g a w _ n λg1 a1 w1 x hx n1 t1=>by
  cases hx;exact sA (h2 (okR ok) ro k g1 a1 w1 Q n1 λg2 a2 w2 y hy n2 t2=>h g2 a2 w2 y hy n2 (t1.trans t2))))
def auX (he:tE e=I) (h1:gj E nt x m e m1):gj E nt (.seq x y) m e m1:=λok ro k g a w Q n h=>
 wpIn_seq (sA (h1 (okL ok) ro k g a w _ n λg1 a1 w1 x hx n1 t1=>by
  have:=h g1 a1 w1 x hx n1 t1;cases hx<;>first|exact this|cases he))
def cond {c:Ew} {b:Bool} (hc:dB m.T c=V (.bool b)) (h1:gj E nt (aT b x y) m e m1):gj E nt (.cond c x y) m e m1:=λok ro k g a w Q n h=>by
 have hv:a.eval c= .bool b:=by
  have:=s9 n.fr hc;generalize a.eval c=v at this;cases this;rfl
 have ok:(codeOk x&&codeOk y)=M:=ok;rw[bG] at ok;cases b
 ·exact wpIn_cond_false hv (sA (h1 ok.2 ro k g a w Q n h))
 ·exact wpIn_cond_true hv (sA (h1 ok.1 ro k g a w Q n h))
def block {id:Nat} (h1:gj E nt c m e m1):gj E nt (.block id c) m (leave id e) m1:=λok ro k g a w Q n h=>
 wpIn_block (sA (h1 ok ro k g a w _ n λg1 a1 w1 x hx n1 t1=>by
  have key:∀y,ExR g1 (leave id e) y->Q y a1 w1:=λy hy=>h g1 a1 w1 y hy n1 t1
  cases hx with
  |normal=>exact key _ .normal
  |ret=>exact key _ .ret
  |zp hv=>exact key _ (.zp hv)
  |exit i=>
   rw[SX] at key;show (if i=id then Q .normal a1 w1 else Q (.exit i) a1 w1)
   split
   ·rename_i hi;rw[aG hi] at key;exact key _ .normal
   ·rename_i hi;rw[aC hi] at key;exact key _ (.exit i)))
def loop (h1:gj E nt c m .normal m1) (h2:gj E nt (.loop c) m1 e m2):gj E nt (.loop c) m e m2:=λok ro k g a w Q n h=>
 BY (sA (h1 ok ro k g a w _ n λg1 a1 w1 x hx n1 t1=>by
  cases hx;exact h2 ok ro k g1 a1 w1 Q n1 λg2 a2 w2 y hy n2 t2=>h g2 a2 w2 y hy n2 (t1.trans t2)))
def aHH (he:tE e=I) (h1:gj E nt c m e m1):gj E nt (.loop c) m e m1:=λok ro k g a w Q n h=>
 BY (sA (h1 ok ro k g a w _ n λg1 a1 w1 x hx n1 t1=>by
  have:=h g1 a1 w1 x hx n1 t1;cases hx<;>first|exact this|cases he))
end gj
structure Sr1 where
 v:SV
 D:Nat->Bool
 H:Hf
 need:Nat->Prop
 frp:Nat->Prop
 newp:Nat->Prop
structure qA (E:Env) (nt:Nat) (ops:eP) (i:Nat) (o:Oper) (m:MS) (r:Sr1) (m':MS):Prop where
 st:∀ro,TL E ro nt ops i o m.T r.need m.H r.frp r.newp r.v r.D r.H
 T:m'.T=eG m.T o.dst r.v
 H:m'.H=rM r.D r.H m.H
 nx:m.nx<=m'.nx
def lG (E:Env) (nt:Nat) (ops:eP) (i:Nat) (m m':MS):Prop:=∀(ro:cD) (k:Nat) (g:Gh) (a:Act) (w:World) (Q:Exit->Act->World->Prop),Now E nt g m a w->
 (∀g' a' w',Now E nt g' m' a' w'->xJ g m w a g' m' w' a'->Q .normal a' w')->wpOpsIn (wC ro) k E.P ops Q (List.range' i (ops.size-i)) a w
def lG.nil:lG E nt ops ops.size m m:=λro k g a w Q n h=>by
 rw[qX];exact h g a w n .refl
def lG.cons {ops:eP} {i:Nat} {o:Oper} {r:Sr1} (hi:ops[i]? =V o) (h1:qA E nt ops i o m r m1) (hf:∀x,r.frp x->m.nx<=x) (hn:∀x,r.newp x->m.nx<=x/\x<m1.nx) (h2:lG E nt ops (i+1) m1 m2):lG E nt ops i m m2:=λro k g a w Q n h=>by
 have dq:i<ops.size:=by
  by_cases hc:i<ops.size
  ·exact hc
  ·rw[GV (by omega)] at hi;cases hi
 rw[show ops.size-i=(ops.size-(i+1))+1 by omega,A5,wpOpsIn_cons]
 refine h1.st ro k g m.H m.T a w _ Q n.env n.fr n.hr (λ_ _=>rfl) (λ_ _=>rfl) (λx hx=>n.fresh x (hf x hx)) λv w' g' q1 q2 q3 q4=> ?_
 rw[<-h1.T] at q1;rw[<-h1.H] at q2 q3;have h1n:=h1.nx;refine h2 ro k g' (a.put o.dst v) w' Q ⟨n.env.mono q3.le,q1,q2,λx hx=> ?_⟩ λg2 a2 w2 n2 t2=>h g2 a2 w2 n2 (xJ.trans ⟨q3,put_defers _ _ _,λx hx=>q4 x λhc=> ?_,h1n⟩ t2)
 ·rw[q4 x (λhc=>by have:=hn x hc;omega)]
  exact n.fresh x (by omega)
 ·have:=hn x hc;omega
def gj.region {id:Nat} (h1:lG E nt ops 0 m m1):gj E nt (.region id ops I) m .normal m1:=λok ro k g a w Q n h=>wpIn_region (by
 have:=h1 ro k g a w Q n λg' a' w' n' t'=>h g' a' w' _ .normal n' t'
 simpa[Lc] using this)
def qA.op (hi:ops[i]? =V o) (hw:j0 ops.toList o m.T=V M) (hd:mX nt o.dst=M) (ho:vu E o.op m.T m.H new=V (v,us)) (hH:m.H new=G) (hn:m.nx<=nx'):
  qA E nt ops i o m ⟨v,aaH us new,gY m.H us,λx=>x∈Oq o.op m.T,λx=>x=new,λx=>x=new/\us≠ []⟩ ⟨eG m.T o.dst v,gY m.H us,nx'⟩:=by
 refine ⟨λro=>akp hi hw hd ho hH (λx=>by simp[aaH]) (aqO ho),rfl,?_,hn⟩
 funext x;show gY m.H us x=rM (aaH us new) (gY m.H us) m.H x;unfold rM aaH;by_cases h1:x∈us.map (·.1)
 ·rw[aG (by simp only[jA];exact .inl h1)]
 ·rw[Lm h1];split<;>rfl
def qA.skip (hi:ops[i]? =V o) (hw:j0 ops.toList o m.T=V I) (hd:mX nt o.dst=M) (hH:m.H new=G):
  qA E nt ops i o m ⟨.dr [],λx=>iL (x=new),m.H,λ_=>False,λx=>x=new,λ_=>False⟩ ⟨eG m.T o.dst (.dr []),m.H,m.nx⟩:=by
 refine ⟨λro=>step_skip hi hw hd hH (λx=>by simp),rfl,?_,de _⟩
 funext x;show m.H x=rM _ m.H m.H x;unfold rM;split<;>rfl
class Kv (E:Env):Prop where
 fn:∀k fn,E.fn.get k=V fn->E.P.funcs[k]? =V fn/\aqo fn=M
def gj.sem [hS:Kv E] {fi aa ca vs:bc} (Mm:E.fn.get k=V fn) (S7:fn.body=V c) (hnum:L7 fn.name=I) (hlen:(fi++aa++ca).length<=fn.ntmps) (he:aFu e=V G) (h1:gj E fn.ntmps c ⟨(setArgs (fi++aa++ca) 0 .nil).get,H,nx⟩ e m1) (hr:zY E m1.T m1.H fn.results.toList=V vs):qW E I (.fn (.func k) fi ca) aa H nx (oneOf vs) m1.H m1.nx:=λm g w u us hE hhr nk hu oc=>by
 cases hu with
 | @fn _ first j5 _ _ D6 HI=>
 obtain ⟨hPf,pN⟩:=hS.fn k fn Mm;have AO:mZ g (first.toList++us++j5.toList) (fi++aa++ca):=(D6.append oc).append HI
 have xF:first++us.toArray++j5=(first.toList++us++j5.toList).toArray:=by apply A4;simp
 have hokc:codeOk c=M:=by
  have pN: @Option.rec Code (λ_=>Bool) M codeOk fn.body=M:=pN
  rw[S7] at pN;exact pN
 refine ⟨{target:=.fn (.func k) j5,args:=first++us.toArray},rfl,.inl ⟨k,first++us.toArray++j5,?_,?_⟩⟩
 ·show (callFunc k (first++us.toArray++j5)).run E.P w=_
  rcases yF hPf (by rw[S7];rfl) (first++us.toArray++j5) w with ⟨_,hc⟩|hc
  ·rw[hc] at hnum;exact absurd hnum (by decide)
  ·exact hc
 rw[xF];refine callsIn_of_wp_marks (F:=Fence.wide) hPf S7 trivial (sA (F:=wC G) ?_);refine h1 hokc G m g {tmps:=_,defers:= []} w _ ⟨hE,FR.args AO hlen,hhr,nk⟩ λg1 a1 w1 x hx n1 t1=> ?_
 have fin:LeavesInM Fence.wide m E.P fn a1.tmps (λe w'=>∃r,e=aaS I r/\∃g',VR g' r (oneOf vs)/\HR g' m1.H w'/\Fr g H w g' m1.H w'/\(∀x,x<nx->g'.O x=g.O x)/\∀x,m1.nx<=x->g'.O x=G) a1.defers .returning w1:=by
  rw[t1.df];obtain ⟨v,D6,HI⟩:=aeT n1.env n1.hr n1.fr hr;exact ⟨v,D6,v,rfl,g1,HI,n1.hr,t1.fr,t1.ro,n1.fresh⟩
 cases hx with
 |normal=>exact fin
 |ret=>exact fin
 |exit id=>cases he
 |zp hv=>cases he
end Go.bM
end
namespace Go.bM
variable {e t src:pJ} {n off n' l K k j sz new:Nat} {p:pJ×bc} {o:Z SO} {svs vs xs R ws:bc} {v u w:SV} {x a ox it:Ew} {P:J5} {J γ:Type} {i:TI} {z mx:Bool} {d c1:cD} {lo:Z Ew} {fs:bJ} {q:(Ew×Ew)×pJ×pJ} {fn:Nat->Nat} {ms:ig}
section
variable {s QG K':Nat} {c:Cp}
inductive AV where
 |lit (v:SV)
 |sl (m e s n:Nat) (Q:List (List AV))
 |kh (cs:List AV)
 |agg (cs:List AV)
 |dr (cs:List AV)
 |fn (f:FuncId) (first j5:List AV)
 |el (K s j f:Nat)
 |ms (K s lo n:Nat)
 |mp (K:Nat)
 |it (K:Nat)
 |undef
 deriving Inhabited
abbrev AV.bool (b:Bool):AV:=.lit (.bool b)
abbrev AV.int (k:O') (n:Int):AV:=.lit (.int k (.lit n))
abbrev AV.str (s:U):AV:=.lit (.str s)
abbrev AV.cq:AV:=.lit .cq
abbrev AV.vy:AV:=.lit .vy
abbrev AV.pC:AV:=.lit .pC
abbrev AV.uJ:AV:=.lit .uJ
abbrev AV.slice (e s n:Nat) (Q:List (List AV)):AV:=.sl 0 e s n Q
abbrev AV.sln (e s n:Nat) (Q:List (List AV)):AV:=.sl 1 e s n Q
abbrev AV.rY (e s n:Nat) (Q:List (List AV)):AV:=.sl 2 e s n Q
abbrev AV.loc (K f:Nat):AV:=.el K 0 0 f
inductive Sh where
 |d
 |o (x:Bool) (l:List Sh)
inductive Bx where
 |flat (e:pJ) (cs:List AV)
 |bY (z:Bool) (e s:Nat) (l:List Sh) (Q:List (List AV)) (o:List (Nat×AV))
 |map (es:List (AV×AV))
 |iter (s:ByteArray) (pos:Nat)
 deriving Inhabited
abbrev bz:=List (List AV)
abbrev zty13_:=Nat->List Nat
abbrev cT:=List (Nat×Bx)
abbrev fk:=List (Nat×AV)
abbrev bb:=List AV
abbrev ee:=List Sh
abbrev Bx.rows (z:Bool) (e s:Nat) (Q:bz):Bx:=.bY z e s [] Q []
abbrev Bx.tree (e s:Nat) (l:ee) (Q:bz) (o:fk):Bx:=.bY I e s l Q o
def yE (x:Bool) (e s n:Nat) (Q:bz):AV:=.sl (aT x 2 0) e s n Q
structure GK where
 n:Nat
 c:Cp
 b:Bool
abbrev Gb:=Nat->GK
def lH:Gb:=λ_=>⟨0,.k 0,I⟩
abbrev Ow:=List (Nat×SO)
def aiI (e:pJ) (n:Nat):Cp->Prop
 | .u e'=>e'=e
 | .k m=>n<=m
def zf (e:pJ) (s n len:Nat):Cp->Prop
 | .u e'=>e'=e/\n*s<=len
 | .k m=>n<=m/\len=m*s
def anj {e len:Nat} (hc:zf e s n len c):aiI e n c:=by
 cases c<;>exact hc.1
def oD {e len:Nat} (hc:zf e s n len c):n*s<=len:=by
 cases c with
 |k m=>rw[hc.2];exact js _ hc.1
 |u e'=>exact hc.2
mutual
inductive VA (F:Hf):Gb->SV->AV->Prop
 |lit {g:_} (v:_):VA F g v (.lit v)
 |nil {g:_} (m e s:_):VA F g .cq (.sl m e s 0 [])
 |sle {g:_} (e s:_):VA F g .sle (.sl 2 e s 0 [])
 |sl {g m id off c e s n Q e' svs:_} (hn:Q.length=n) (hF:jD (F id) off (n*s)=V (e',svs)) (hc:aiI e n c) (hm:m=1->Q≠ []) (hu:∀r∈Q,r.length=s) (hl:off+n*s<=svs.length) (h:dH F lH ((svs.drop off).take (n*s)) Q.flatten):VA F g (.sl id off n c) (.sl m e s n Q)
 |kh {g id off cs e svs:_} (hF:jD (F id) off cs.length=V (e,svs)) (hl:off+cs.length<=svs.length) (h:dH F lH ((svs.drop off).take cs.length) cs):VA F g (.ptr id off) (.kh cs)
 |agg {g cs xs:_} (h:dH F g cs xs):VA F g (.agg cs) (.agg xs)
 |dr {g cs xs:_} (h:dH F g cs xs):VA F g (.dr cs) (.dr xs)
 |fn {g:_} (f:_) {a c xs ys:_} (h1:dH F g a xs) (h2:dH F g c ys):VA F g (.fn (.func f) a c) (.fn f xs ys)
 |el {g:_} (K s j f:_) (hb:(g K).b=M):VA F g (.ptr (g K).n (j*s+f)) (.el K s j f)
 |sK {g K:_} (s:_) (hb:(g K).b=I):VA F g .cq (.ms K s 0 0)
 |ms {g K:_} (s lo n:_) (hb:(g K).b=M):VA F g (.sl (g K).n (lo*s) n (zx (g K).c lo)) (.ms K s lo n)
 |yI {g K:_} (s lo:_) (hl:0<lo):VA F g .sle (.ms K s lo 0)
 |mp {g:_} (K:_):VA F g (.mp (g K).n) (.mp K)
 |it {g:_} (K:_):VA F g (.ptr (g K).n 0) (.it K)
 |undef {g:_} (v:_):VA F g v .undef
inductive dH (F:Hf):Gb->bc->bb->Prop
 |nil {g:_}:dH F g [] []
 |cons {g v x vs xs:_} (h:VA F g v x) (t:dH F g vs xs):dH F g (v::vs) (x::xs)
end
def oE (F F':Hf):Prop:=∀id o,F id=V o->F' id=V o
def oE.refl (F:Hf):oE F F:=λ_ _ h=>h
def oE.trans {a b c:Hf} (h:oE a b) (k:oE b c):oE a c:=λid o q=>k id o (h id o q)
def AQ {F F':Hf} (hF:oE F F') {id:Nat} (q:jD (F id) off n=V p):jD (F' id) off n=V p:=by
 cases hf:F id with
 |none=>rw[hf] at q;cases q
 |some o=>rw[hF id o hf,<-hf];exact q
def ZL {F:Hf} {id:Nat} (q:jD (F id) off n=V p):∃o,F id=V o:=by
 cases hf:F id with
 |none=>rw[hf] at q;cases q
 |some o=>exact ⟨o,rfl⟩
def tj (h:o=V (.cells e svs)):jD o off n=V (e,svs):=by rw[h];rfl
def MH:∀{cs:bc},(∀(j:Nat) (x:SV),cs[j]? =V x->KZ x=I)->xc cs=M
 | [],_=>rfl
 |y::cs,h=>by
  show aT (KZ y) I (xc cs)=M;rw[cE,aC (by rw[h 0 y rfl];decide)]
  exact MH λj x hx=>h (j+1) x hx
def yY (h:jD o off n=V p) (h1:off<=QG) (h2:QG+n'<=off+n):jD o QG n'=V p:=by
 cases o with
 |none=>cases h
 |some x=>cases x with
  |ro cs=>
   obtain ⟨hd,hx⟩:=ba (show aT (xc ((cs.drop off).take n)) (V (0,cs)) G=V p from h);show aT (xc ((cs.drop QG).take n')) (V (0,cs)) G=V p;rw[cE,aG (MH λj x hj=> ?_)]
   ·exact hx
   ·rw[eZ] at hj;split at hj
    ·rw[fp] at hj;refine J3 hd (j:=QG-off+j) ?_;rw[eZ,aG (by omega),fp,show off+(QG-off+j)=QG+j by omega]
     exact hj
    ·cases hj
  |_=>exact h
mutual
def kG:AV->bJ
 | .agg cs=>lz cs
 | .dr cs=>lz cs
 | .fn _ a c=>lz a++lz c
 | .el K _ _ _=> [K]
 | .ms K _ _ _=> [K]
 | .mp K=> [K]
 | .it K=> [K]
 |_=> []
def lz:bb->bJ
 | []=> []
 |x::l=>kG x++lz l
end
mutual
def Gm (f:Nat->Nat):AV->AV
 | .agg cs=>.agg (uU f cs)
 | .dr cs=>.dr (uU f cs)
 | .fn i a c=>.fn i (uU f a) (uU f c)
 | .el K s j i=>.el (f K) s j i
 | .ms K s lo n=>.ms (f K) s lo n
 | .mp K=>.mp (f K)
 | .it K=>.it (f K)
 |x=>x
def uU (f:Nat->Nat):bb->bb
 | []=> []
 |x::l=>Gm f x::uU f l
end
mutual
def Oo:∀x:AV,Gm (λk=>k) x=x
 | .agg cs=>bF AV.agg (xt cs)
 | .dr cs=>bF AV.dr (xt cs)
 | .fn i a c=>by show AV.fn i (uU _ a) (uU _ c)=_;rw[xt a,xt c]
 | .el .. | .ms .. | .mp _| .it _| .lit _| .sl .. | .kh _| .undef=>rfl
def xt:∀l:bb,uU (λk=>k) l=l
 | []=>rfl
 |x::l=>by show Gm _ x::uU _ l=_;rw[Oo x,xt l]
end
variable {F F':Hf} {g g':Gb} {f:Nat->Nat}
mutual
def VA.map (hF:oE F F'):∀{g v x},VA F g v x->∀{g':Gb} {f:Nat->Nat},(∀k∈kG x,g' (f k)=g k)->VA F' g' v (Gm f x)
 |_,_,_,.lit v,_,_,_=>.lit v
 |_,_,_,.nil m e s,_,_,_=>.nil m e s
 |_,_,_,.sle e s,_,_,_=>.sle e s
 |_,_,_,.sl hn q hc hm hu hl h,_,_,_=>.sl hn (AQ hF q) hc hm hu hl (h.mono hF)
 |_,_,_,.kh q hl h,_,_,_=>.kh (AQ hF q) hl (h.mono hF)
 |_,_,_,.agg h,_,_,k=>.agg (h.map hF k)
 |_,_,_,.dr h,_,_,k=>.dr (h.map hF k)
 |_,_,_,.fn i h1 h2,_,_,k=>.fn i (h1.map hF λj hj=>k j (gX _ hj)) (h2.map hF λj hj=>k j (jb _ hj))
 |_,_,_,.el K s j i hb,_,f,k=>by have e:=k K (by simp[kG]);rw[<-e] at hb ⊢;exact .el (f K) s j i hb
 |_,_,_,.sK s hb,_,_,k=>.sK s (by rw[k _ (by simp[kG])];exact hb)
 |_,_,_,.ms (K:=K) s lo n hb,_,f,k=>by have e:=k K (by simp[kG]);rw[<-e] at hb ⊢;exact .ms s lo n hb
 |_,_,_,.yI s lo hl,_,_,_=>.yI s lo hl
 |_,_,_,.mp K,_,f,k=>by rw[<-k K (by simp[kG])];exact .mp (f K)
 |_,_,_,.it K,_,f,k=>by rw[<-k K (by simp[kG])];exact .it (f K)
 |_,_,_,.undef v,_,_,_=>.undef v
def dH.map (hF:oE F F'):∀{g vs xs},dH F g vs xs->∀{g':Gb} {f:Nat->Nat},(∀k∈lz xs,g' (f k)=g k)->dH F' g' vs (uU f xs)
 |_,_,_,.nil,_,_,_=>.nil
 |_,_,_,.cons h t,_,_,k=>.cons (h.map hF λj hj=>k j (gX _ hj)) (t.map hF λj hj=>k j (jb _ hj))
def dH.mono (hF:oE F F'):∀{g vs xs},dH F g vs xs->dH F' g vs xs
 |_,_,_,.nil=>.nil
 |_,_,_,.cons h t=>.cons (by have:=h.map hF (g':=_) (f:=λk=>k) λ_ _=>rfl;rwa[Oo] at this) (t.mono hF)
end
def VA.same {x:AV} (h:VA F g v x) (hF:oE F F') (hg:∀k∈kG x,g' k=g k):VA F' g' v x:=by
 have:=h.map hF hg;rwa[Oo] at this
def VA.mono {x:AV} (hF:oE F F') (h:VA F g v x):VA F' g v x:=h.same hF λ_ _=>rfl
def dH.same {xs:bb} (h:dH F g vs xs) (hF:oE F F') (hg:∀k∈lz xs,g' k=g k):dH F' g' vs xs:=by
 have:=h.map hF hg;rwa[xt] at this
def avV {l:bJ} (h:l.isEmpty=M) {P:Nat->Prop}:∀k∈l,P k:=λk hk=>by
 cases l with
 |nil=>cases hk
 |cons=>cases h
def dH.length:∀{vs xs},dH F g vs xs->vs.length=xs.length
 |_,_,.nil=>rfl
 |_,_,.cons _ t=>by simp[t.length]
def dH.get:∀{vs xs},dH F g vs xs->∀{j:Nat} {x:AV},xs[j]? =V x->∃v,vs[j]? =V v/\VA F g v x
 |_,_,.nil,_,_,h=>by simp at h
 |_,_,.cons h t,0,x,hx=>by simp at hx;subst hx;exact ⟨_,rfl,h⟩
 |_,_,.cons h t,j+1,x,hx=>by simp at hx;obtain ⟨v,a,b⟩:=t.get hx;exact ⟨v,by simpa using a,b⟩
def dH.append:∀{vs xs ws ys},dH F g vs xs->dH F g ws ys->dH F g (vs++ws) (xs++ys)
 |_,_,_,_,.nil,k=>k
 |_,_,_,_,.cons h t,k=>.cons h (t.append k)
def dH.drop:∀{vs xs} (n:Nat),dH F g vs xs->dH F g (vs.drop n) (xs.drop n)
 |_,_,0,h=>h
 |_,_,n+1,.nil=>by simpa using .nil
 |_,_,n+1,.cons _ t=>by simpa using t.drop n
def dH.take:∀{vs xs} (n:Nat),dH F g vs xs->dH F g (vs.take n) (xs.take n)
 |_,_,0,_=>by simpa using .nil
 |_,_,n+1,.nil=>by simpa using .nil
 |_,_,n+1,.cons h t=>by simpa using .cons h (t.take n)
def gQ (xs:bb) (off:Nat) (ys:bb):bb:=xs.take off++ys++xs.drop (wW off ys.length)
def dH.eB {vs xs ws ys} (h:dH F g vs xs) (k:dH F g ws ys) (off:Nat):dH F g (eB vs off ws) (gQ xs off ys):=by
 have:=((h.take off).append k).append (h.drop (off+ys.length));show dH F g (vs.take off++ws++vs.drop (off+ws.length)) _;rw[k.length];exact this
mutual
inductive TC (F:Hf):Sh->SV->AV->Ow->Prop
 |d {v x:_} (q:VA F lH v x):TC F .d v x []
 |any {sh:_} (v:_):TC F sh v .undef []
 |nil {b l e s:_}:TC F (.o b l) .cq (yE b e s 0 []) []
 |sl {b l id c svs e s n Q L:_} (hn:Q.length=n) (hu:∀r∈Q,r.length=s) (hc:zf e s n svs.length c) (q:TR F l (svs.take (n*s)) Q L):TC F (.o b l) (.sl id 0 n c) (yE b e s n Q) ((id,.cells e svs)::L)
inductive kX (F:Hf):ee->bc->bb->Ow->Prop
 |nil {l:_}:kX F l [] [] []
 |cons {l v vs x xs a b:_} (q:TC F (l.headD .d) v x a) (t:kX F l.tail vs xs b):kX F l (v::vs) (x::xs) (a++b)
inductive TR (F:Hf):ee->bc->bz->Ow->Prop
 |nil {l:_}:TR F l [] [] []
 |cons {l vs ws r rows a b:_} (q:kX F l vs r a) (t:TR F l ws rows b):TR F l (vs++ws) (r::rows) (a++b)
end
mutual
def TC.mono (hF:oE F F'):∀{sh v x L},TC F sh v x L->TC F' sh v x L
 |_,_,_,_,.d q=>.d (q.mono hF)
 |_,_,_,_,.any v=>.any v
 |_,_,_,_,.nil=>.nil
 |_,_,_,_,.sl hn hu hc q=>.sl hn hu hc (q.mono hF)
def kX.mono (hF:oE F F'):∀{l vs xs L},kX F l vs xs L->kX F' l vs xs L
 |_,_,_,_,.nil=>.nil
 |_,_,_,_,.cons q t=>.cons (q.mono hF) (t.mono hF)
def TR.mono (hF:oE F F'):∀{l vs Q L},TR F l vs Q L->TR F' l vs Q L
 |_,_,_,_,.nil=>.nil
 |_,_,_,_,.cons q t=>.cons (q.mono hF) (t.mono hF)
end
def kX.length:∀{l vs xs L},kX F l vs xs L->vs.length=xs.length
 |_,_,_,_,.nil=>rfl
 |_,_,_,_,.cons _ t=>by simp[t.length]
def TR.length:∀{l vs Q L},TR F l vs Q L->(∀r∈Q,r.length=s)->vs.length=Q.length*s
 |_,_,_,_,.nil,_=>by simp
 |_,_,_,_,.cons q t,hu=>by
  rw[gy,q.length,hu _ (by simp),t.length λr hr=>hu r (dQ _ hr),iu,Nat.succ_mul]
  omega
mutual
def TC.data (hF:oE F F'):∀{sh v x L},TC F sh v x L->(∀p∈L,F' p.1=V p.2)->VA F' lH v x
 |_,_,_,_,.d q,_=>q.mono hF
 |_,_,_,_,.any v,_=>.undef v
 |_,_,_,_,.nil,_=>.nil _ _ _
 |_,_,_,_,@TC.sl _ b l id c svs e s n Q L hn hu hc q,hk=>.sl (m:=aT b 2 0) hn (tj (hk (id,.cells e svs) (by simp))) (anj hc) (λh=>by cases b<;>cases h) hu (by rw[cg];exact oD hc) (by simpa using q.data hF λp hp=>hk p (dQ _ hp))
def kX.data (hF:oE F F'):∀{l vs xs L},kX F l vs xs L->(∀p∈L,F' p.1=V p.2)->dH F' lH vs xs
 |_,_,_,_,.nil,_=>.nil
 |_,_,_,_,.cons q t,hk=>.cons (q.data hF λp hp=>hk p (gX _ hp)) (t.data hF λp hp=>hk p (jb _ hp))
def TR.data (hF:oE F F'):∀{l vs Q L},TR F l vs Q L->(∀p∈L,F' p.1=V p.2)->dH F' lH vs Q.flatten
 |_,_,_,_,.nil,_=>.nil
 |_,_,_,_,.cons q t,hk=>by
  rw[pX];exact (q.data hF λp hp=>hk p (gX _ hp)).append (t.data hF λp hp=>hk p (jb _ hp))
end
def kX.vw:∀{vs xs},dH F lH vs xs->kX F [] vs xs []
 |_,_,.nil=>.nil
 |_,_,.cons h t=>.cons (l:= []) (.d h) (kX.vw t)
def TR.vw {s:Nat}:∀{Q:bz} {vs},(∀r∈Q,r.length=s)->dH F lH vs Q.flatten->TR F [] vs Q []
 | [],vs,_,q=>by cases q;exact .nil
 |r::Q,vs,hu,q=>by
  rw[pX] at q;have q1:=q.take r.length;have q2:=q.drop r.length;rw[Wd] at q1;rw[Wc] at q2;have:=TR.cons (kX.vw q1) (TR.vw (λr' hr=>hu r' (dQ _ hr)) q2)
  rwa[C4] at this
def Bx.keys:Bx->bJ
 | .flat _ cs=>lz cs
 | .bY _ _ _ _ _ o=>lz (o.map (·.2))
 |_=> []
def Bx.iR (f:Nat->Nat):Bx->Bx
 | .flat e cs=>.flat e (uU f cs)
 | .bY z e s l Q o=>.bY z e s l Q (o.map λp=>(p.1,Gm f p.2))
 |b=>b
def HoA (F:Hf) (g:Gb) (svs:bc) (o:fk):Prop:=∀p∈o,∃v,svs[p.1]? =V v/\VA F g v p.2
def Au (ms:ig) (c:Nat):Prop:=(∀n∈ms.map (·.2.2),n<c)/\(ms.map (·.2.2)).Nodup
inductive eT (F:Hf) (g:Gb) (K:Nat):Bx->Ow->Prop
 |flat {e cs svs:_} (q:dH F g svs cs):eT F g K (.flat e cs) [((g K).n,.cells e svs)]
 |nil {z e s l:_} (hb:(g K).b=I):eT F g K (.bY z e s l [] []) []
 |bY {z e s l Q o svs L:_} (hb:(g K).b=M) (hz:z=M->Q≠ []) (hu:∀r∈Q,r.length=s) (hc:zf e s Q.length svs.length (g K).c) (q:TR F l (svs.take (Q.length*s)) Q L) (ho:HoA F g svs o):eT F g K (.bY z e s l Q o) (((g K).n,.cells e svs)::L)
 |map {es ms c:_} (hk:dH F lH (ms.map (·.1)) (es.map (·.1))) (hv:dH F lH (ms.map (·.2.1)) (es.map (·.2))) (hw:Au ms c):eT F g K (.map es) [((g K).n,.map ms c)]
 |iter {s pos:_}:eT F g K (.iter s pos) [((g K).n,.pY s pos)]
def CE:∀{l:bb} {x:AV},x∈l->∀k∈kG x,k∈lz l
 |y::l,x,hx,k,hk=>(da.1 hx).elim (λe=>gX _ (e ▸ hk)) λhx=>jb _ (CE hx k hk)
def HoA.map {svs:bc} {o:fk} (h:HoA F g svs o) (hF:oE F F') (hg:∀k∈lz (o.map (·.2)),g' (f k)=g k):HoA F' g' svs (o.map λp=>(p.1,Gm f p.2)):=λp hp=>by
 obtain ⟨q,hq,rfl⟩:=dM.1 hp;obtain ⟨v,h1,h2⟩:=h q hq;exact ⟨v,h1,h2.map hF λk hk=>hg k (CE (dM.2 ⟨q,hq,rfl⟩) k hk)⟩
def eT.mv {b:Bx} {L:Ow} (q:eT F g K b L) (hF:oE F F') (hK:g' K'=g K) (hg:∀k∈b.keys,g' (f k)=g k):eT F' g' K' (b.iR f) L:=by
 cases q with
 |flat q=>rw[<-hK];exact .flat (q.map hF hg)
 |nil hb=>exact .nil (hK ▸ hb)
 |bY hb hz hu hc q ho=>rw[<-hK] at hb hc ⊢;exact .bY hb hz hu hc (q.mono hF) (ho.map hF hg)
 |map hk hv hw=>rw[<-hK];exact .map (hk.mono hF) (hv.mono hF) hw
 |iter=>rw[<-hK];exact .iter
def Bx.aJL (b:Bx):b.iR (λk=>k)=b:=by
 cases b with
 |flat e cs=>exact bF (Bx.flat e) (xt cs)
 |bY z e s l Q o=>
  refine bF (Bx.bY z e s l Q) ?_;rw[show (λp:Nat×AV=>(p.1,Gm (λk=>k) p.2))=id from funext λp=>by rw[Oo];rfl,List.map_id]
 |_=>rfl
def eT.same {b:Bx} {L:Ow} (q:eT F g K b L) (hF:oE F F') (hK:g' K=g K) (hg:∀k∈b.keys,g' k=g k):eT F' g' K b L:=by
 have:=q.mv hF hK hg;rwa[Bx.aJL] at this
end
section
structure LS where
 ts:fk
 bs:cT
def lk {J:Type} (t:Nat) (l:List (Nat×J)):Z J:=List.rec G (λp _ ih=>aT (ku t p.1) (V p.2) ih) l
def dy (t k:Nat) (x:J) (l:List (Nat×J)):lk t ((k,x)::l)=if t=k then V x else lk t l:=by
 show aT (ku t k) (V x) (lk t l)=_;rw[cE];by_cases h:t=k
 ·rw[aG h,aG ((beq_iff _ _).2 h)]
 ·rw[aC h,aC (λe=>h ((beq_iff _ _).1 e))]
def DX {J f8:Type} (f:Nat->J->f8) (t:Nat):∀l:List (Nat×J),lk t (l.map λp=>(p.1,f p.1 p.2))=(lk t l).map (f t)
 | []=>rfl
 |(k,x)::l=>by
  rw[jX,dy,dy,DX f t l];split
  ·rename_i e;subst e;rfl
  ·rfl
def pq {J:Type} {t:Nat} {x:J}:∀{l:List (Nat×J)},lk t l=V x->(t,x)∈l
 | [],h=>by cases h
 |(k,y)::l,h=>by
  rw[dy] at h;split at h
  ·rename_i e;cases h;rw[e];exact j7
  ·exact dQ _ (pq h)
def lp {J:Type} (K:Nat) (l:List (Nat×J)):List (Nat×J):=List.rec [] (λp _ ih=>aT (ku p.1 K) ih (p::ih)) l
def xA {J:Type} (K k:Nat):∀l:List (Nat×J),lk k (lp K l)=if k=K then G else lk k l
 | []=>by split<;>rfl
 |(j,x)::l=>by
  show lk k (aT (ku j K) (lp K l) ((j,x)::lp K l))=_;rw[cE,dy];split
  ·rename_i e;obtain rfl:=(beq_iff _ _).1 e;rw[xA j k l];split<;>rfl
  ·rename_i e;have hj:j≠K:=λc=>e ((beq_iff _ _).2 c)
   rw[dy,xA K k l];by_cases hk:k=j
   ·rw[aG hk,aG hk,aC (λc=>hj (hk ▸ c))]
   ·rw[aC hk,aC hk]
variable {F F':Hf} {g g':Gb} {Y:Nat->Ow} {c:Nat->cD} {s s':LS} {T T':Tf} {H H':Hf}
structure Rel (F:Hf) (g:Gb) (Y:Nat->Ow) (c:Nat->cD) (s:LS) (T:Tf) (H:Hf):Prop where
 tm:∀t x,lk t s.ts=V x->x≠ .undef->∃v,T t=V v/\VA F g v x
 bx:∀k b,lk k s.bs=V b->eT F g k b (Y k)/\((Y k).map (·.1)).Nodup/\∀p∈Y k,H p.1=V p.2/\c p.1=V k
 fr:∀i o,F i=V o->H i=V o/\c i=G
 cn:∀i,H i=G->c i=G
def Rel.sub (r:Rel F g Y c s T H) (h1:∀t x,lk t s'.ts=V x->lk t s.ts=V x) (h2:∀k b,lk k s'.bs=V b->lk k s.bs=V b):Rel F g Y c s' T H:=
 {r with tm:=λt x hx=>r.tm t x (h1 t x hx),bx:=λk b hb=>r.bx k b (h2 k b hb)}
def LS.put (s:LS) (d:cD) (x:AV):LS:= @Option.rec Nat (λ_=>LS) s (λd=>⟨(d,x)::s.ts,s.bs⟩) d
def Rel.put (r:Rel F g Y c s T H) (d:cD) {x:AV} (hv:x≠ .undef->VA F g v x):Rel F g Y c (s.put d x) (eG T d v) H:=by
 cases d with
 |none=>exact {r with tm:=λt y hy hn=>by simpa[eG] using r.tm t y hy hn}
 |some d=>
  refine {r with tm:=λt y hy hn=> ?_}
  rw[show (s.put (V d) x).ts=(d,x)::s.ts from rfl,dy] at hy;simp only[eG,V8];split at hy
  ·rename_i e;cases hy;exact ⟨v,by rw[aG e.symm],hv hn⟩
  ·rename_i e;rw[aC λh=>e h.symm]
   exact r.tm t y hy hn
def Rel.apa (r:Rel F g Y c s T H) (hF:∀i o,F' i=V o->H i=V o/\c i=G) {ft:Nat->AV->AV} {fb:Nat->Bx->Bx} (h0:∀t,ft t .undef= .undef) (h1:∀t v x,lk t s.ts=V x->VA F g v x->VA F' g' v (ft t x))
  (h2:∀k b L,lk k s.bs=V b->eT F g k b L->eT F' g' k (fb k b) L):Rel F' g' Y c ⟨s.ts.map λp=>(p.1,ft p.1 p.2),s.bs.map λp=>(p.1,fb p.1 p.2)⟩ T H:=by
 refine ⟨λt y hy hn=> ?_,λk b hb=> ?_,hF,r.cn⟩
 ·have hy:lk t (s.ts.map λp=>(p.1,ft p.1 p.2))=V y:=hy
  rw[DX] at hy;obtain ⟨x,hx,e⟩:=wc.1 hy;by_cases hu:x= .undef
  ·subst hu;rw[h0] at e;exact absurd e.symm hn
  ·obtain ⟨v,v1,v2⟩:=r.tm t x hx hu;exact ⟨v,v1,e ▸ h1 t v x hx v2⟩
 ·have hb:lk k (s.bs.map λp=>(p.1,fb p.1 p.2))=V b:=hb
  rw[DX] at hb;obtain ⟨b0,qF,rfl⟩:=wc.1 hb;obtain ⟨q,q2⟩:=r.bx k b0 qF;exact ⟨h2 k b0 _ qF q,q2⟩
def ly {J:Type} (Y:Nat->J) (K:Nat) (x:J):Nat->J:=λk=>if k=K then x else Y k
def LS.free (s:LS) (K:Nat):Prop:=(∀t x,lk t s.ts=V x->K∉kG x)/\∀k b,k≠K->lk k s.bs=V b->K∉b.keys
def LS.set (s:LS) (K:Nat) (b:Bx):LS:=⟨s.ts,(K,b)::s.bs⟩
def Alike (s:LS) (K:Nat) (g g':Gb):Prop:=g'=g\/(s.free K/\∀k,k≠K->g' k=g k)
def Alike.va (h:Alike s K g g') {t:Nat} {x:AV} (hx:lk t s.ts=V x) (hv:VA F g v x):VA F g' v x:=by
 rcases h with rfl|⟨h1,h2⟩
 ·exact hv
 ·exact hv.same (.refl F) λk hk=>h2 k λe=>h1.1 t x hx (e ▸ hk)
def Alike.box (h:Alike s K g g') {b:Bx} (cQ:k≠K) (hb:lk k s.bs=V b) {L:Ow} (q:eT F g k b L):eT F g' k b L:=by
 rcases h with rfl|⟨h1,h2⟩
 ·exact q
 ·exact q.same (.refl F) (h2 k cQ) λj hj=>h2 j λe=>h1.2 k b cQ hb (e ▸ hj)
open Classical in
def Rel.chg (r:Rel F g Y c s T H) {b':Bx} {L':Ow} (hb:eT F g' K b' L') (nd:(L'.map (·.1)).Nodup) (hL:∀p∈L',H' p.1=V p.2/\(c p.1=V K\/H p.1=G)) (hH:∀i,H' i≠H i->c i=V K\/H i=G) (hg:Alike s K g g'):∃c',Rel F g' (ly Y K L') c' (s.set K b') T H'/\(∀i,H i≠G->c i≠V K->c' i=c i)/\(∀i k,c' i=V k->c i=V k\/(k=K/\i∈L'.map (·.1)))/\∀i k,c i=V k->c' i=V k\/H' i=G:=by
 let c':Nat->cD:=λi=>if H' i=G then G else if i∈L'.map (·.1) then V K else c i
 have keep:∀{i o},H i=V o->c i≠V K->H' i=V o/\c' i=c i:=λ{i o} hi hc=>by
  have e:H' i=H i:=pW λhn=>(hH i hn).elim hc λh=>by rw[h] at hi;cases hi
  refine ⟨e.trans hi,?_⟩;show (if H' i=G then G else if i∈L'.map (·.1) then V K else c i)=c i
  rw[e,hi,aC (by simp),aC λhm=> ?_]
  obtain ⟨p,hp,rfl⟩:=dM.1 hm;exact (hL p hp).2.elim hc λh=>by rw[h] at hi;cases hi
 refine ⟨c',⟨λt x hx hn=> ?_,λk b hk=> ?_,λi o hi=> ?_,λi hi=>aG hi⟩,λi hi hc=> ?_,λi k h=> ?_,λi k h=> ?_⟩
 ·obtain ⟨v,v1,v2⟩:=r.tm t x hx hn;exact ⟨v,v1,hg.va hx v2⟩
 ·rw[show (s.set K b').bs=(K,b')::s.bs from rfl,dy] at hk;unfold ly;split at hk
  ·rename_i e;cases hk;rw[aG e,e];refine ⟨hb,nd,λp hp=>⟨(hL p hp).1,?_⟩⟩
   show (if H' p.1=G then G else if p.1∈L'.map (·.1) then V K else c p.1)=V K
   rw[(hL p hp).1,aC (by simp),aG (dM.2 ⟨p,hp,rfl⟩)]
  ·rename_i e;rw[aC e];obtain ⟨q1,q2,q3⟩:=r.bx k b hk;refine ⟨hg.box e hk q1,q2,λp hp=> ?_⟩
   obtain ⟨p1,p2⟩:=q3 p hp;obtain ⟨k1,k2⟩:=keep p1 (by rw[p2];exact λh=>e (by injection h))
   exact ⟨k1,k2.trans p2⟩
 ·obtain ⟨p1,p2⟩:=r.fr i o hi;obtain ⟨k1,k2⟩:=keep p1 (by rw[p2];simp)
  exact ⟨k1,k2.trans p2⟩
 ·obtain ⟨o,ho⟩:=uw.1 hi;exact (keep ho hc).2
 ·have h:(if H' i=G then G else if i∈L'.map (·.1) then V K else c i)=V k:=h
  split at h
  ·cases h
  ·split at h
   ·rename_i hm;exact .inr ⟨(kR h).symm,hm⟩
   ·exact .inl h
 ·show (if H' i=G then G else if i∈L'.map (·.1) then V K else c i)=V k\/_
  split
  ·rename_i e;exact .inr e
  ·left;split
   ·rename_i hm;obtain ⟨p,hp,rfl⟩:=dM.1 hm;rcases (hL p hp).2 with e|e
    ·exact e.symm.trans h
    ·rw[r.cn _ e] at h;cases h
   ·exact h
def D0 {i:Nat} {c:Nat->cD} (h:(if c i=V K then G else c i)=V K):False:=by
 split at h
 ·cases h
 ·contradiction
def Rel.sink (r:Rel F g Y c s T H) (K:Nat):∃F' c',oE F F'/\((∀i k,c' i=V k->c i=V k)/\(∀i,F' i≠G->F i≠G\/c i=V K)/\(∀i,c i≠V K->c' i=c i)/\∀i,c' i≠V K)/\(∀b,lk K s.bs=V b->∀p∈Y K,F' p.1=V p.2)/\Rel F' g Y c' ⟨s.ts,lp K s.bs⟩ T H:=by
 let F':Hf:=λi=>if c i=V K then H i else F i
 have hF:oE F F':=λi o ho=>by
  show (if c i=V K then H i else F i)=V o
  rw[(r.fr i o ho).2,aC (by simp)]
  exact ho
 refine ⟨F',λi=>if c i=V K then G else c i,hF,⟨λi k h=> ?_,λi h=> ?_,λi h=>aC h,λi h=>D0 h⟩,λb hb p hp=> ?_,λt x hx hn=> ?_,λk b hk=> ?_,λi o hi=> ?_,λi hi=> ?_⟩
 ·dsimp only at h;split at h
  ·cases h
  ·exact h
 ·have h:(if c i=V K then H i else F i)≠G:=h
  split at h
  ·exact .inr (by assumption)
  ·exact .inl h
 ·obtain ⟨p1,p2⟩:=(r.bx K b hb).2.2 p hp;exact (aG p2).trans p1
 ·obtain ⟨v,v1,v2⟩:=r.tm t x hx hn;exact ⟨v,v1,v2.mono hF⟩
 ·rw[xA] at hk;split at hk
  ·cases hk
  ·rename_i cQ;obtain ⟨q1,q2,q3⟩:=r.bx k b hk;refine ⟨q1.same hF rfl λ_ _=>rfl,q2,λp hp=>⟨(q3 p hp).1,?_⟩⟩
   rw[(q3 p hp).2,aC λh=>cQ (by injection h)]
 ·have hi:(if c i=V K then H i else F i)=V o:=hi
  split at hi
  ·rename_i e;exact ⟨hi,aG e⟩
  ·rename_i e;exact ⟨(r.fr i o hi).1,(aC e).trans (r.fr i o hi).2⟩
 ·split
  ·rfl
  ·exact r.cn i hi
structure kn (pn:Nat->Bool) (s s':LS):Prop where
 go:∀{F g Y c T H},Rel F g Y c s T H->∃F' g' φ' c',oE F F'/\(∀k,pn k=M->g' k=g k)/\Rel F' g' φ' c' s' T H
variable {pn:Nat->Bool} {s1:LS}
def kn.refl:kn pn s s:=.mk λr=>⟨_,_,_,_,.refl _,λ_ _=>rfl,r⟩
def kn.trans (h:kn pn s s1) (k:kn pn s1 s'):kn pn s s':=.mk λr=>
 let ⟨_,_,_,_,h1,h2,r1⟩:=h.go r
 let ⟨_,_,_,_,k1,k2,r2⟩:=k.go r1
 ⟨_,_,_,_,h1.trans k1,λj hj=>(k2 j hj).trans (h2 j hj),r2⟩
end
section
variable {F:Hf} {g g':Gb} {Y:Nat->Ow} {c:Nat->cD} {s s':LS} {T:Tf} {H:Hf} {E:Env} {pn:Nat->Bool}
variable {f:Hf->SV->gG}
def dU (ts:fk) (x:Ew):AV:=
 match x with
 | .tmp t=>(lk t ts).getD .undef
 | .const v=>.lit (wy v)
 | .func f=>.fn f [] []
 | .global _=>.undef
def qu (ts:fk) (xs:List Ew):bb:=xs.map (dU ts)
def sM:AV->Bool
 | .undef=>M
 |_=>I
def JA {x:AV} (h:sM x=I):x≠ .undef:=λe=>by rw[e] at h;cases h
def qV:bb->Bool
 | []=>M
 |x::l=>aT (sM x) I (qV l)
def Rel.val (r:Rel F g Y c s T H) {y:AV} (hx:dU s.ts x=y) (hy:y≠ .undef):∃v,dB T x=V v/\VA F g v y:=by
 subst hx;cases x with
 |tmp t=>
  cases h:lk t s.ts with
  |none=>exact absurd (by show (lk t s.ts).getD .undef=_;rw[h];rfl) hy
  |some z=>
   have e:dU s.ts (.tmp t)=z:=by show (lk t s.ts).getD .undef=_;rw[h];rfl
   rw[e] at hy ⊢;exact r.tm t z h hy
 |const v=>exact ⟨_,rfl,.lit _⟩
 |func f=>exact ⟨_,rfl,.fn f .nil .nil⟩
 |global _=>exact absurd rfl hy
def Rel.gA (r:Rel F g Y c s T H):∀{xs:List Ew},qV (qu s.ts xs)=M->∃vs,gA T xs=V vs/\dH F g vs (qu s.ts xs)
 | [],_=>⟨[],rfl,.nil⟩
 |x::xs,h=>by
  have h:aT (sM (dU s.ts x)) I (qV (qu s.ts xs))=M:=h;rw[cE] at h;split at h
  ·cases h
  ·rename_i hx;obtain ⟨v,v1,v2⟩:=r.val (x:=x) rfl (JA (by simpa using hx))
   obtain ⟨vs,w1,w2⟩:=r.gA h;exact ⟨v::vs,by show cC (dB T x) (bM.gA T xs) _=_;rw[v1,w1];rfl,.cons v2 w2⟩
structure Ok (E:Env) (pn:Nat->Bool) (op:Op) (s s':LS) (x:AV) (W:bJ):Prop where
 go:∀{F:Hf} {g:Gb} {Y:Nat->Ow} {c:Nat->cD} {T:Tf} {H:Hf} {new:Nat},Rel F g Y c s T H->H new=G->∃v us g' φ' c',vu E op T H new=V (v,us)/\(x≠ .undef->VA F g' v x)/\Rel F g' φ' c' s' T (gY H us)/\(∀k,pn k=M->g' k=g k)/\
  (∀i,H i≠G->(∀K∈W,c i≠V K)->gY H us i=H i/\c' i=c i)/\(∀u∈us,u.1=new\/∃K∈W,c u.1=V K)/\(∀i k,c i=V k->c' i=V k\/gY H us i=G)/\(gY H us new≠G->∃K∈W,c' new=V K)
def Ok.val {op:Op} {x:AV} (h:∀{F:Hf} {g:Gb} {Y:Nat->Ow} {c:Nat->cD} {T:Tf} {H:Hf},Rel F g Y c s T H->∃v,(∀new,vu E op T H new=V (v,[]))/\VA F g v x):Ok E pn op s s x []:=⟨λ{F g Y c T H new} r hn=>by
 obtain ⟨v,v1,v2⟩:=h r;exact ⟨v,[],g,Y,c,v1 new,λ_=>v2,r,λ_ _=>rfl,λ_ _ _=>⟨rfl,rfl⟩,λ_ hu=>(by cases hu),λ_ _ h=>.inl h,λh=>absurd hn h⟩⟩
def Ok.un {op:Op} {x y:AV} (gu:∀T H new,vu E op T H new=one T a (f H)) (ha:dU s.ts a=y) (hy:y≠ .undef) (hf:∀{F:Hf} {g:Gb} {Y:Nat->Ow} {c:Nat->cD} {T:Tf} {H:Hf} {v:SV},Rel F g Y c s T H->VA F g v y->∃u,f H v=V (u,[])/\VA F g u x):Ok E pn op s s x []:=.val λ{F g Y c T H} r=>by
 obtain ⟨v,v1,v2⟩:=r.val ha hy;obtain ⟨u,u1,u2⟩:=hf r v2;exact ⟨u,λnew=>by rw[gu,one,v1];exact u1,u2⟩
def Ok.bi {op:Op} {b:Ew} {f:SV->SV->gG} {x y z:AV} (gu:∀T H new,vu E op T H new=two T a b f) (ha:dU s.ts a=y) (hy:y≠ .undef) (hb:dU s.ts b=z) (hz:z≠ .undef) (hf:∀{F:Hf} {g:Gb} {v w:SV},VA F g v y->VA F g w z->∃u,f v w=V (u,[])/\VA F g u x):Ok E pn op s s x []:=.val λ{F g Y c T H} r=>by
 obtain ⟨v,v1,v2⟩:=r.val ha hy;obtain ⟨w,w1,w2⟩:=r.val hb hz;obtain ⟨u,u1,u2⟩:=hf v2 w2;exact ⟨u,λnew=>by rw[gu,two,v1,w1];exact u1,u2⟩
def Ok.boxG {op:Op} {x:AV} {b':Bx} {s1:LS} (hs:∀{F:Hf} {g:Gb} {Y:Nat->Ow} {c:Nat->cD} {T:Tf} {H:Hf},Rel F g Y c s T H->Rel F g Y c s1 T H) (h:∀{F:Hf} {g:Gb} {Y:Nat->Ow} {c:Nat->cD} {T:Tf} {H:Hf} {new:Nat},Rel F g Y c s T H->H new=G->∃v us gk L',vu E op T H new=V (v,us)/\VA F (ly g K gk) v x/\eT F (ly g K gk) K b' L'/\(L'.map (·.1)).Nodup/\
  (∀p∈L',gY H us p.1=V p.2/\(c p.1=V K\/H p.1=G))/\(∀u∈us,u.1=new\/c u.1=V K)/\(gk=g K\/(pn K=I/\s1.free K))/\(gY H us new=G\/new∈L'.map (·.1))):Ok E pn op s (s1.set K b') x [K]:=⟨λ{F g Y c T H new} r hn=>by
 obtain ⟨v,us,gk,L',v1,v2,hb,nd,hL,hu,hg,hnw⟩:=h r hn;have r:=hs r;have cu:∀i,gY H us i≠H i->c i=V K\/H i=G:=λi hi=>by
  by_cases hm:i∈us.map (·.1)
  ·obtain ⟨u,ud,rfl⟩:=dM.1 hm;exact (hu u ud).elim (λe=>.inr (by rw[e];exact hn)) .inl
  ·exact absurd (Lm hm H) hi
 have same:gk=g K->ly g K gk=g:=λe=>funext λk=>by unfold ly;split<;>simp_all
 obtain ⟨c',r',hc,Co,hc3⟩:=r.chg hb nd hL cu (hg.elim (λe=>.inl (same e)) λhf=>.inr ⟨hf.2,λk hk=>aC hk⟩)
 refine ⟨v,us,_,_,c',v1,λ_=>v2,r',λk hk=> ?_,λi hi hW=> ?_,λu hm=>(hu u hm).imp_right λe=>⟨K,by simp,e⟩,λi k hk=>hc3 i k hk,λcQ=> ?_⟩
 ·rcases hg with e|⟨e,_⟩
  ·rw[same e]
  ·exact aC λe'=>by rw[e',e] at hk;cases hk
 ·have hK:=hW K (by simp)
  exact ⟨pW λcQ=>(cu i cQ).elim hK hi,hc i hi hK⟩
 ·rcases hnw with h|h
  ·exact absurd h cQ
  ·obtain ⟨p,hp,rfl⟩:=dM.1 h;exact ⟨K,by simp,((r'.bx K _ (by rw[show (s1.set K b').bs=(K,b')::s1.bs from rfl,dy,aG rfl])).2.2 p (by unfold ly;rw[aG rfl];exact hp)).2⟩⟩
def Ok.box {op:Op} {x:AV} {b':Bx} (h:∀{F:Hf} {g:Gb} {Y:Nat->Ow} {c:Nat->cD} {T:Tf} {H:Hf} {new:Nat},Rel F g Y c s T H->H new=G->∃v us gk L',vu E op T H new=V (v,us)/\VA F (ly g K gk) v x/\eT F (ly g K gk) K b' L'/\(L'.map (·.1)).Nodup/\
  (∀p∈L',gY H us p.1=V p.2/\(c p.1=V K\/H p.1=G))/\(∀u∈us,u.1=new\/c u.1=V K)/\(gk=g K\/(pn K=I/\s.free K))/\(gY H us new=G\/new∈L'.map (·.1))):Ok E pn op s (s.set K b') x [K]:=.boxG (λr=>r) h
def Ok.lay {op:Op} {x:AV} {b:Bx} (hp:pn K=I) (hf:s.free K) (h:∀{F:Hf} {g:Gb} {Y:Nat->Ow} {c:Nat->cD} {T:Tf} {H:Hf} {new:Nat},Rel F g Y c s T H->∃v o cp,vu E op T H new=V (v,[(new,V o)])/\
  ∀g':Gb,g' K=⟨new,cp,M⟩->(∀k,k≠K->g' k=g k)->VA F g' v x/\eT F g' K b [(new,o)]):Ok E pn op s (s.set K b) x [K]:=.box λ{F g Y c T H new} r hn=>by
 obtain ⟨v,o,cp,v1,v2⟩:=h (new:=new) r;obtain ⟨a,b⟩:=v2 (ly g K ⟨new,cp,M⟩) (aG rfl) λk hk=>aC hk
 refine ⟨v,_,⟨new,cp,M⟩,_,v1,a,b,by simp,λp hp=> ?_,λu hu=>.inl (by rw[gL.1 hu]),.inr ⟨hp,hf⟩,.inr (by simp)⟩
 obtain rfl:=gL.1 hp;exact ⟨by simp[gY,jn],.inr hn⟩
def Ok.wr {op:Op} {x:AV} {b b':Bx} (hb:lk K s.bs=V b) (h:∀{F:Hf} {g:Gb} {Y:Nat->Ow} {c:Nat->cD} {T:Tf} {H:Hf},Rel F g Y c s T H->∃v o o' L L',Y K=((g K).n,o)::L/\(∀new,vu E op T H new=V (v,[((g K).n,V o')]))/\
  VA F g v x/\eT F g K b' (((g K).n,o')::L')/\L'.Sublist L):Ok E pn op s (s.set K b') x [K]:=.box λ{F g Y c T H new} r hn=>by
 obtain ⟨v,o,o',L,L',e,v1,v2,v3,hs⟩:=h r;obtain ⟨_,q2,q3⟩:=r.bx K b hb;rw[e] at q2 q3;have same:ly g K (g K)=g:=funext λk=>by unfold ly;split<;>simp_all
 have qn:=(q3 ((g K).n,o) (by simp)).2
 have nd:(((g K).n,o')::L').map (·.1)|>.Nodup:=by rw[jX,pj] at q2 ⊢;exact ⟨λh=>q2.1 ((hs.map _).subset h),(hs.map _).nodup q2.2⟩
 refine ⟨v,_,g K,((g K).n,o')::L',v1 new,by rw[same];exact v2,by rw[same];exact v3,nd,λp hp=> ?_,λu hu=>.inr (by rw[gL.1 hu];exact qn),.inl rfl,.inl ?_⟩
 rcases da.1 hp with rfl|hp
 ·exact ⟨by simp[gY,jn],.inl qn⟩
 ·obtain ⟨p1,p2⟩:=q3 p (dQ _ (hs.subset hp));refine ⟨?_,.inl p2⟩;show jn H ((g K).n,V o') p.1=_;unfold jn;rw[aC λe=> ?_]
  ·exact p1
  ·have:=(pj.1 nd).1;exact this (by have e:p.1=(g K).n:=e;exact dM.2 ⟨p,hp,e⟩)
 ·show (if new=(g K).n then _ else H new)=G
  rw[aC λe=> ?_]
  ·exact hn
  ·have:=(q3 ((g K).n,o) (by simp)).1
   rw[e] at hn;rw[show ((g K).n,o).1=(g K).n from rfl,hn] at this;cases this
end
section
variable {F F':Hf} {g g':Gb} {Y:Nat->Ow} {c:Nat->cD} {s s':LS} {T:Tf} {H:Hf} {E:Env} {pn:Nat->Bool}
variable {f:Nat} {v':SV} {oy:Ew} {dst:pJ} {i2:TI}
def yK (vs:bc):bb:=vs.map .lit
def uF:∀{vs:bc},dH F g vs (yK vs)
 | []=>.nil
 |v::vs=>.cons (.lit v) uF
def ahl (x:AV):Z bb:=
 match x with
 | .agg cs=>V cs
 | .lit (.agg vs)=>V (yK vs)
 |_=>G
def YJ {x:AV} {cs:bb} (h:ahl x=V cs) (hv:VA F g v x):∃vs,v= .agg vs/\dH F g vs cs:=by
 unfold ahl at h;split at h
 ·cases h;cases hv with|agg q=>exact ⟨_,rfl,q⟩
 ·cases h;cases hv;exact ⟨_,rfl,uF⟩
 ·cases h
def Ey (x:AV):Z bb:=
 match x with
 | .agg cs=>V cs
 | .lit v=>az v.cells λvs=>V (yK vs)
 | .dr _=>G
 | .undef=>G
 |x=>V [x]
def FH {x:AV} {xs:bb} (h:Ey x=V xs) (hv:VA F g v x):∃vs,v.cells=V vs/\dH F g vs xs:=by
 unfold Ey at h;split at h
 ·cases h;cases hv with|agg q=>exact ⟨_,rfl,q⟩
 ·obtain ⟨vs,h1,h⟩:=aq h;cases h;cases hv;exact ⟨vs,h1,uF⟩
 ·cases h
 ·cases h
 ·cases h;refine ⟨[v],?_,.cons hv .nil⟩;cases hv<;>first|rfl|simp_all
def wk (i:TI) (cs:bb) (off:Nat):Z AV:=
 aT (mT i.desc) (aT (kQ (wW off i.size) cs.length) (V (.agg ((cs.drop off).take i.size))) G) (cs[off]?)
def yd {cs:bb} {x:AV} (q:dH F g vs cs) (hx:wk i cs off=V x):∃v,je i vs off=V v/\VA F g v x:=by
 unfold wk at hx;unfold je;rw[cE] at hx ⊢;split at hx
 ·rename_i ha;rw[aG ha];obtain ⟨hl,hx⟩:=ba hx;cases hx;rw[q.length,cE,aG hl];exact ⟨_,rfl,.agg ((q.drop off).take i.size)⟩
 ·rename_i ha;rw[aC ha];exact q.get hx
def afl (h:je i ((svs.drop off).take n) 0=V u) (hl:off+n<=svs.length):je i svs off=V u:=by
 unfold je at h ⊢;rw[cE] at h ⊢;split at h
 ·rename_i ha;rw[aG ha];obtain ⟨hle,hu⟩:=ba h;have hle:0+i.size<=((svs.drop off).take n).length:=(bR _ _).1 hle;rw[dz,jx] at hle;cases hu;rw[cE,aG (show kQ (wW off i.size) svs.length=M from (bR _ _).2 (show off+i.size<=svs.length by omega))]
  rw[ph,l6,fo (by omega)]
 ·rename_i ha;rw[aC ha];rw[eZ] at h;split at h
  ·rw[fp] at h;simpa using h
  ·cases h
def aGK {cs:bb} {x:AV} (h:wk i cs 0=V x):wide i<=cs.length:=by
 unfold wk at h;unfold wide;rw[cE] at h ⊢;split at h
 ·rename_i hg;rw[aG hg];have:=(bR _ _).1 (ba h).1;rwa[show wW 0 i.size=i.size from cg _] at this
 ·rename_i hg;rw[aC hg];have:=(bO.1 h).1;omega
def HQ (E:Env) (s:pJ) (f:Nat):Z (Nat×TI):=az (E.ty.get s) λi=>az (zy i.desc) λfs=>az (fs[f]?) λfl=>az (E.ty.get fl.type) λfi=>V (fl.off,fi)
def MA {p:Nat×TI} (hf:HQ E t f=V p):∃i fs fl,E.ty.get t=V i/\zy i.desc=V fs/\fs[f]? =V fl/\E.ty.get fl.type=V p.2/\fl.off=p.1:=by
 obtain ⟨i,hi,hf⟩:=aq hf;obtain ⟨fs,hfs,hf⟩:=aq hf;obtain ⟨fl,Ed,hf⟩:=aq hf;obtain ⟨fi,hfi,hf⟩:=aq hf;cases hf;exact ⟨i,fs,fl,hi,hfs,Ed,hfi,rfl⟩
def axE (p:Nat×TI) (x:AV):Z AV:=
 aT (kQ 1 p.2.size) (match x with
  | .el K s j f=>V (.el K s j (wW f p.1))
  | .kh cs=>aT (kQ p.1 cs.length) (V (.kh (cs.drop p.1))) G
  |_=>G) G
def aAz {id:Nat} {cs:bb} (q:VA F g (.ptr id off) (.kh cs)) (hk:k<=cs.length):VA F g (.ptr id (off+k)) (.kh (cs.drop k)):=by
 cases q with
 |kh hF hl hv=>
  refine .kh (yY hF (by omega) (by rw[jx];omega)) (by rw[jx];omega) ?_
  have:=hv.drop k;rw[vZ,sw] at this;rw[jx];exact this
def aBn {p:Nat×TI} {x y:AV} (hp:HQ E t f=V p) (hx:axE p y=V x) (hv:VA F g v y):∃u,rK E t f v=V (u,[])/\VA F g u x:=by
 obtain ⟨i,fs,fl,e1,e2,e3,e4,e5⟩:=MA hp;obtain ⟨oA,hx⟩:=ba hx;have key:∀id off,rK E t f (.ptr id off)=V (SV.ptr id (wW off p.1),[]):=λid off=>by
  unfold rK;rw[e1];show az (zy i.desc) _=_;rw[e2];show az (fs[f]?) _=_;rw[e3];show az (E.ty.get fl.type) _=_;rw[e4];show aT (kQ 1 p.2.size) (V (SV.ptr id (wW off fl.off),[])) G=_;rw[oA,e5]
 split at hx
 ·cases hx;cases hv;refine ⟨_,key _ _,?_⟩;rw[show wW (_+_) p.1=_+wW _ p.1 from gD _ _ _];exact .el _ _ _ _ (by assumption)
 ·obtain ⟨hk,hx⟩:=ba hx;cases hx;have wY:∃id off,v=SV.ptr id off:=by cases hv;exact ⟨_,_,rfl⟩
  obtain ⟨id,off,rfl⟩:=wY;exact ⟨_,key _ _,aAz hv ((bR _ _).1 hk)⟩
 ·cases hx
def aBm {p:Nat×TI} {cs:bb} {x:AV} (hp:HQ E t f=V p) (q:dH F g vs cs) (hx:wk p.2 cs p.1=V x):∃u,De E t f (.agg vs)=V (u,[])/\VA F g u x:=by
 obtain ⟨i,fs,fl,e1,e2,e3,e4,e5⟩:=MA hp;obtain ⟨u,u1,u2⟩:=yd q hx;refine ⟨u,?_,u2⟩;unfold De;rw[e1];show az (zy i.desc) _=_;rw[e2];show az (fs[f]?) _=_;rw[e3];show az (E.ty.get fl.type) _=_;rw[e4];show same (je p.2 vs fl.off)=_;rw[e5,u1];rfl
def OA {id:Nat} (hi:E.ty.get t=V i) (hh:jD (H id) off (wide i)=V (e,svs)) (hu:je i svs off=V u):same (rm E H t (.ptr id off))=V (u,[]):=by
 unfold rm;show same (az (E.ty.get t) λi=>az (jD (H id) off (wide i)) λp=>je i p.2 off)=_
 rw[hi];show same (az (jD (H id) off (wide i)) λp=>je i p.2 off)=_
 rw[hh];show same (je i svs off)=_;rw[hu];rfl
def VA.sI {x:AV} (q:VA F g v x) (hk:(kG x).isEmpty=M):VA F g' v x:=q.same (.refl F) (avV hk)
def dH.sI {v:bc} {x:bb} (q:dH F g v x) (hk:(lz x).isEmpty=M):dH F g' v x:=q.same (.refl F) (avV hk)
def zer {J:Type} (j:Nat) (x:Z J):Z J:=match j with|0=>x|_=>G
def acH {x:Z J} {y:J} (h:zer j x=V y):j=0/\x=V y:=by
 cases j with
 |zero=>exact ⟨rfl,h⟩
 |succ j=>cases h
def Jy (i:TI) (bs:cT):AV->Z AV
 | .kh cs=>az (wk i cs 0) λx=>aT (kG x).isEmpty (V x) G
 | .el K _ j off=>
  (match lk K bs with
  |some (.flat _ cs)=>zer j (wk i cs off)
  |_=>G)
 |_=>G
def Rel.flat (r:Rel F g Y c s T H) {K:Nat} {e:pJ} {cs:bb} (hb:lk K s.bs=V (.flat e cs)):∃svs,Y K= [((g K).n,.cells e svs)]/\dH F g svs cs/\H (g K).n=V (.cells e svs):=by
 obtain ⟨q,_,q3⟩:=r.bx K _ hb;generalize Y K=L at q q3;cases q with
 | @flat e cs svs q=>exact ⟨svs,rfl,q,(q3 ((g K).n,.cells e svs) (by simp)).1⟩
def amD {x y:AV} (hi:E.ty.get t=V i) (hx:Jy i s.bs y=V x) (r:Rel F g Y c s T H) (hv:VA F g v y):∃u,same (rm E H t v)=V (u,[])/\VA F g u x:=by
 unfold Jy at hx;split at hx
 ·obtain ⟨x',hx,sP⟩:=aq hx;obtain ⟨hk,sP⟩:=ba sP;cases sP;cases hv with
  |kh hF hl hv=>
  obtain ⟨u,u1,u2⟩:=yd hv hx;exact ⟨u,OA hi (yY (AQ (λi o h=>(r.fr i o h).1) hF) (de _) (Nat.add_le_add_left (aGK hx) _)) (afl u1 hl),u2.sI hk⟩
 ·split at hx
  ·rename_i e cs hb;obtain ⟨rfl,hx⟩:=acH hx;cases hv;obtain ⟨svs,_,q,hH⟩:=r.flat hb;obtain ⟨u,u1,u2⟩:=yd q hx;exact ⟨u,by rw[mK,cg];exact OA hi (tj hH) u1,u2⟩
  ·cases hx
 ·cases hx
def binL:X'->O'->Int->Int->Z AV
 | .add,k,m,n=>V (.int k (k.wrap (m+n)))
 | .sub,k,m,n=>V (.int k (k.wrap (m-n)))
 | .mul,k,m,n=>V (.int k (k.wrap (m*n)))
 | .eql,_,m,n=>V (.bool (iL (m=n)))
 | .neq,_,m,n=>V (.bool (!iL (m=n)))
 | .lss,_,m,n=>V (.bool (iL (m<n)))
 | .leq,_,m,n=>V (.bool (!iL (n<m)))
 | .gtr,_,m,n=>V (.bool (iL (n<m)))
 | .geq,_,m,n=>V (.bool (!iL (m<n)))
 | .shr,k,m,n=>aT (iL (n=1)) (V (.int k (m.fdiv 2))) G
 |_,_,_,_=>G
def QO {k k':O'} (h:ij k k'=M):k=k':=by cases k<;>cases k'<;>first|rfl|cases h
def VA.of_eq (h:v=v'):VA F g v (.lit v'):=h ▸ .lit v
def aIk {op:X'} {k:O'} {m n:Int} {x:AV} (hx:binL op k m n=V x):∃v,aya E op t k (.lit m) (.int k (.lit n))=V v/\VA F g v x:=by
 have kk:=apH k;cases op<;>first|(cases hx;done)|skip
 case shr=>
  obtain ⟨hn,hx⟩:=ba hx;obtain rfl:n=1:=by simpa using hn
  cases hx;exact ⟨.int k (.lit (m.fdiv 2)),by cases k<;>rfl,.lit _⟩
 case add=>cases hx;exact ⟨_,by show aT (ij k k) (V (SV.int k (ahm k (.lit m) (.lit n)))) G=_;rw[kk];rfl,.lit _⟩
 case sub=>cases hx;exact ⟨_,by show aT (ij k k) (V (SV.int k (Qq k (.lit m) (.lit n)))) G=_;rw[kk];rfl,.lit _⟩
 case mul=>cases hx;exact ⟨_,by cases k<;>rfl,.lit _⟩
 case eql=>cases hx;exact ⟨.bool (iL (m=n)),by show aT (ij k k) (lW I (V (JD m n))) G=_;rw[kk,Dh];rfl,.lit _⟩
 case neq=>cases hx;exact ⟨.bool (!iL (m=n)),by show aT (ij k k) (lW M (V (JD m n))) G=_;rw[kk,Dh];rfl,.lit _⟩
 case lss=>cases hx;exact ⟨.bool (iL (m<n)),by show aT (ij k k) (lW I (V (CH m n))) G=_;rw[kk,xC];rfl,.lit _⟩
 case leq=>cases hx;exact ⟨.bool (!iL (n<m)),by show aT (ij k k) (lW M (V (CH n m))) G=_;rw[kk,xC];rfl,.lit _⟩
 case gtr=>cases hx;exact ⟨.bool (iL (n<m)),by show aT (ij k k) (lW I (V (CH n m))) G=_;rw[kk,xC];rfl,.lit _⟩
 case geq=>cases hx;exact ⟨.bool (!iL (m<n)),by show aT (ij k k) (lW M (V (CH m n))) G=_;rw[kk,xC];rfl,.lit _⟩
def binS:X'->U->U->Z AV
 | .eql,a,b=>V (.bool (iL (a=b)))
 | .neq,a,b=>V (.bool (!iL (a=b)))
 | .lss,a,b=>V (.bool (N' a.toList b.toList))
 | .leq,a,b=>V (.bool (N' a.toList b.toList||a.toList==b.toList))
 | .gtr,a,b=>V (.bool (!(N' a.toList b.toList||a.toList==b.toList)))
 | .geq,a,b=>V (.bool (!N' a.toList b.toList))
 |_,_,_=>G
def aIj {op:X'} {a b:U} {x:AV} (hx:binS op a b=V x):∃v,axZ E op t a (.str b)=V v/\VA F g v x:=by
 cases op<;>first|(cases hx;done)|skip
 ·cases hx;exact ⟨.bool (Gj a b),rfl,.of_eq (by rw[xY])⟩
 ·cases hx;exact ⟨.bool (!Gj a b),rfl,.of_eq (by rw[xY])⟩
 all_goals (cases hx;exact ⟨_,rfl,.lit _⟩)
def ctor:SV->Nat
 | .vy=>1
 | .ptr _ _=>2
 | .cq=>3
 | .sl _ _ _ _=>4
 | .pC=>5
 | .mp _=>6
 | .uJ=>7
 | .fn _ _ _=>8
 |_=>0
def aaV:AV->cD
 | .lit v=>V (ctor v)
 | .el .. | .kh _=>V 2
 | .sl 0 _ _ _ (_::_)=>V 4
 | .mp _=>V 6
 | .fn .. =>V 8
 |_=>G
def eqC (k a b:Nat):Z Bool:=aT (ku a k&&ku b k) (V M) (aT ((ku a k&&ku b (k+1))||(ku a (k+1)&&ku b k)) (V I) G)
def kD:UD->cD
 | .pointer=>V 1
 | .slice _=>V 3
 | .map _ _=>V 5
 | .func=>V 7
 |_=>G
def ane {x:AV} (h:aaV x=V k) (hv:VA F g v x):ctor v=k:=by
 unfold aaV at h;split at h<;>first|(cases h;done)|(cases h;cases hv<;>rfl)
def aqG {d:UD} (h:kD d=V k) (eq:pJ->SV->SV->Z Bool) (t:pJ) (v w:SV):eqD d E eq t v w=eqC k (ctor v) (ctor w):=by
 cases d<;>first|(cases h;done)|(cases h;cases v<;>cases w<;>rfl)
def auU {e:Nat} {Q:bz} (q:VA F g v (.sl 1 e sz n Q)):eqC 3 3 (ctor v)=V Q.isEmpty/\eqC 3 (ctor v) 3=V Q.isEmpty:=by
 cases q with
 |nil=>exact ⟨rfl,rfl⟩
 |sl hn hF hc hm=>cases Q with
  |nil=>exact absurd rfl (hm rfl)
  |cons=>exact ⟨rfl,rfl⟩
def aqF (E:Env) (eq:pJ->AV->AV->Z Bool) (xs ys:bb):List FL->Z Bool
 | []=>V M
 |f::fs=>aT f.named (az (E.ty.get f.type) λi=>cC (wk i xs f.off) (wk i ys f.off) λx y=>cC (eq f.type x y) (aqF E eq xs ys fs) λa b=>V (a&&b)) G
def aBz (E:Env) (eq:pJ->AV->AV->Z Bool) (t:pJ):UD->AV->AV->Z Bool
 | .bool,.lit (.bool a),.lit (.bool b)=>V (a==b)
 | .int _,.lit (.int k (.lit a)),.lit (.int k' (.lit b))=>aT (ij k k') (V (iL (a=b))) G
 | .string,.lit (.str a),.lit (.str b)=>V (iL (a=b))
 | .struct fs,x,y=>cC (ahl x) (ahl y) λxs ys=>aT (E.P.stoodInHeld t) G (aqF E eq xs ys fs)
 | .slice _,.lit .cq,.sl 1 _ _ _ Q=>V Q.isEmpty
 | .slice _,.sl 1 _ _ _ Q,.lit .cq=>V Q.isEmpty
 |d,x,y=>az (kD d) λk=>cC (aaV x) (aaV y) (eqC k)
def YD (E:Env) (n:Nat):pJ->AV->AV->Z Bool:=
 @Nat.rec (λ_=>pJ->AV->AV->Z Bool) (λ_ _ _=>G) (λ_ eq t x y=>az (E.ty.get t) λi=>aBz E eq t i.desc x y) n
def agM {eq:pJ->SV->SV->Z Bool} {eqL:pJ->AV->AV->Z Bool} (ih:∀t v w x y b,VA F g v x->VA F g w y->eqL t x y=V b->eq t v w=V b) {vs ws:bc} {xs ys:bb} (h1:dH F g vs xs) (h2:dH F g ws ys):∀{fs:List FL} {b:Bool},aqF E eqL xs ys fs=V b->JZ E eq vs ws fs=V b
 | [],_,hb=>hb
 |f::fs,b,hb=>by
  obtain ⟨hn,hb⟩:=ba hb;obtain ⟨i,hi,hb⟩:=aq hb;obtain ⟨x,y,hx,hy,hb⟩:=bU hb;obtain ⟨c,d,hc,hd,hb⟩:=bU hb;obtain ⟨v,v1,v2⟩:=yd h1 hx;obtain ⟨w,w1,w2⟩:=yd h2 hy;have e1:=ih _ _ _ _ _ _ v2 w2 hc;have e2:=agM ih h1 h2 hd;show aT f.named (az (E.ty.get f.type) λi=>cC (je i vs f.off) (je i ws f.off) λx y=>andThen (eq f.type x y) (JZ E eq vs ws fs)) G=_
  rw[hn,hi];show cC (je i vs f.off) (je i ws f.off) (λx y=>andThen (eq f.type x y) (JZ E eq vs ws fs))=_
  rw[v1,w1];show andThen (eq f.type v w) (JZ E eq vs ws fs)=_;rw[e1,e2];cases hb;cases c<;>rfl
def amV:∀(n:Nat) {t:pJ} {v w:SV} {x y:AV} {b:Bool},VA F g v x->VA F g w y->YD E n t x y=V b->eqT E n t v w=V b
 |0,_,_,_,_,_,_,_,_,hb=>by cases hb
 |n+1,t,v,w,x,y,b,hv,hw,hb=>by
  obtain ⟨i,hi,hb⟩:=aq (show az (E.ty.get t) (λi=>aBz E (YD E n) t i.desc x y)=V b from hb)
  show az (E.ty.get t) (λi=>eqD i.desc E (eqT E n) t v w)=_
  rw[hi];show eqD i.desc E (eqT E n) t v w=V b;generalize i.desc=d at hb;unfold aBz at hb;split at hb
  ·cases hv;cases hw;exact hb
  ·cases hv;cases hw;obtain ⟨hk,hb⟩:=ba hb;show aT (ij _ _) (V (JD _ _)) G=_;rw[hk,Dh];exact hb
  ·cases hv;cases hw;show V (Gj _ _)=_;rw[xY];exact hb
  ·obtain ⟨xs,ys,h1,h2,hb⟩:=bU hb;obtain ⟨vs,rfl,q1⟩:=YJ h1 hv;obtain ⟨ws,rfl,q2⟩:=YJ h2 hw;show aT (E.P.stoodInHeld t) G (JZ E (eqT E n) _ _ _)=_;rw[cE] at hb ⊢;split at hb
   ·cases hb
   ·rename_i hs;rw[aC hs];exact agM (eqL:=YD E n) (λ_ _ _ _ _ _ a b c=>amV n a b c) q1 q2 hb
  ·cases hv;rw[aqG rfl];exact (auU hw).1.trans hb
  ·cases hw;rw[aqG rfl];exact (auU hv).2.trans hb
  ·obtain ⟨k,hk,hb⟩:=aq hb;obtain ⟨a,b',h1,h2,hb⟩:=bU hb;rw[aqG hk,ane h1 hv,ane h2 hw];exact hb
def aQG (E:Env) (t:pJ) (x:AV):Bool:=
 match x with
 | .agg _=> !E.P.eqGuardType E.P.depth t
 | .lit (.agg _)=> !E.P.eqGuardType E.P.depth t
 | .undef=>I
 |_=>M
def arf (E:Env) (op:X') (t:pJ) (x y:AV):Z AV:=
 match x,y with
 | .lit (.int k (.lit m)),.lit (.int k' (.lit n))=>aT (ij k k') (binL op k m n) G
 | .lit (.str a),.lit (.str b)=>binS op a b
 | .lit (.int _ _),_=>G
 | .lit (.str _),_=>G
 |x,y=>aT (aQG E t x) (match op with
  | .eql=>az (YD E 20 t x y) λb=>V (.bool b)
  | .neq=>az (YD E 20 t x y) λb=>V (.bool (!b))
  |_=>G) G
def aKl {op:X'} {x y z:AV} (hv:VA F g v x) (hw:VA F g w y) (hz:arf E op t x y=V z):∃u,Ri E op t ox oy v w=V u/\VA F g u z:=by
 unfold arf at hz;split at hz
 ·obtain ⟨hk,h2⟩:=ba hz;obtain rfl:=QO hk;cases hv;cases hw;exact aIk h2
 ·cases hv;cases hw;exact aIj hz
 ·cases hz
 ·cases hz
 ·rename_i n1 n2 n3 n4;obtain ⟨h1,h2⟩:=ba hz;clear hz;have hb:aBU v=(λE op t ox oy x y=>Yd op E t ox oy x y)/\aBx E t ox oy v=M:=by
   cases hv with
   |lit v=>cases v<;>first|exact ⟨rfl,h1⟩|exact ⟨rfl,rfl⟩|exact (n1 _ _ rfl).elim|exact (n2 _ rfl).elim
   |undef=>cases h1
   |_=>first|exact ⟨rfl,h1⟩|exact ⟨rfl,rfl⟩
  show ∃u,aBU v E op t ox oy v w=V u/\VA F g u z;rw[hb.1];have key:∀{b:Bool},YD E 20 t x y=V b->JY E t ox oy v w=V b:=λh2=>by
   unfold JY;rw[hb.2];exact amV 20 hv hw h2
  split at h2
  ·obtain ⟨b,h3,h2⟩:=aq h2;cases h2;exact ⟨.bool b,by show lW I (JY E t ox oy v w)=_;rw[key h3];rfl,.lit _⟩
  ·obtain ⟨b,h3,h2⟩:=aq h2;cases h2;exact ⟨.bool (!b),by show lW M (JY E t ox oy v w)=_;rw[key h3];rfl,.lit _⟩
  ·cases h2
def unL (op:UnOp):AV->Z AV
 | .lit (.bool b)=>aT (S2 op) (V (.bool (!b))) G
 | .lit (.int k (.lit n))=>aT (isNeg op) (V (.int k (k.wrap (0-n)))) G
 |_=>G
def aOX {op:UnOp} {x y:AV} (hx:unL op y=V x) (hv:VA F g v y):∃u,same (unA op v)=V (u,[])/\VA F g u x:=by
 unfold unL at hx;split at hx
 ·obtain ⟨h1,h2⟩:=ba hx;cases h2;cases hv;exact ⟨_,by show same (aT (S2 op) (V (SV.bool _)) G)=_;rw[h1];rfl,.lit _⟩
 ·obtain ⟨h1,h2⟩:=ba hx;cases h2;cases hv;exact ⟨_,by show same (aT (isNeg op) (V (SV.int _ _)) G)=_;rw[h1];rfl,.lit _⟩
 ·cases hx
def aqT:UD->AV->Z AV
 | .int k,.lit (.int _ (.lit n))=>V (.int k (k.wrap n))
 | .string,.lit (.str s)=>V (.str s)
 | .string,.lit (.int _ (.lit n))=>V (.str (Utf8.encode n))
 |_,_=>G
def aIh {x y:AV} (hi:E.ty.get src=V i) (hi2:E.ty.get dst=V i2) (hx:aqT i2.desc y=V x) (hv:VA F g v y):∃u,same (To E src dst v)=V (u,[])/\VA F g u x:=by
 have key:∃u,aaX i2.desc v=V u/\VA F g u x:=by
  generalize i2.desc=d at hx;unfold aqT at hx;split at hx<;>first|(cases hx;done)|(cases hx;cases hv;exact ⟨_,rfl,.lit _⟩)
 obtain ⟨u,u1,u2⟩:=key;refine ⟨u,?_,u2⟩;show same (cC (E.ty.get src) (E.ty.get dst) λ_ i=>aaX i.desc v)=_
 rw[hi,hi2];show same (aaX i2.desc v)=_;rw[u1];rfl
end
section
variable {F F':Hf} {g g':Gb} {Y:Nat->Ow} {c:Nat->cD} {s s':LS} {T:Tf} {H:Hf} {E:Env} {pn:Nat->Bool}
def SA (ts:fk):List (Nat×Ew)->Z (List (Nat×bb))
 | []=>V []
 |p::rest=>cC (Ey (dU ts p.2)) (SA ts rest) λcs l=>V ((p.1,cs)::l)
def OK (place:Nat->Z (Nat×Nat)) (cs:bb):List (Nat×bb)->Z bb
 | []=>V cs
 |p::rest=>az (place p.1) λq=>aT (ku p.2.length q.2&&kQ (wW q.1 q.2) cs.length) (OK place (gQ cs q.1 p.2) rest) G
inductive PVs (F:Hf) (g:Gb):List (Nat×bc)->List (Nat×bb)->Prop
 |nil:PVs F g [] []
 |cons {j vs xs l m:_} (h:dH F g vs xs) (t:PVs F g l m):PVs F g ((j,vs)::l) ((j,xs)::m)
def FI {x:AV} {xs:bb} (h:Ey x=V xs):x≠ .undef:=λe=>by rw[e] at h;cases h
def QE (r:Rel F g Y c s T H):∀{l:List (Nat×Ew)} {m:List (Nat×bb)},SA s.ts l=V m->∃k,ma T l=V k/\PVs F g k m
 | [],_,hm=>by cases hm;exact ⟨[],rfl,.nil⟩
 |p::rest,m,hm=>by
  obtain ⟨cs,m',h1,h2,h3⟩:=bU hm;cases h3;obtain ⟨v,v1,v2⟩:=r.val (x:=p.2) rfl (FI h1);obtain ⟨ws,w1,w2⟩:=FH h1 v2;obtain ⟨k,k1,k2⟩:=QE r h2;refine ⟨(p.1,ws)::k,?_,.cons w2 k2⟩;show az (dB T p.2) (λv=>cC v.cells (ma T rest) λcs l=>V ((p.1,cs)::l))=_
  rw[v1];show cC v.cells (ma T rest) (λcs l=>V ((p.1,cs)::l))=_
  rw[w1,k1];rfl
def OJ {place:Nat->Z (Nat×Nat)}:∀{k:List (Nat×bc)} {m:List (Nat×bb)} {vs:bc} {xs ys:bb},PVs F g k m->dH F g vs xs->OK place xs m=V ys->∃ws,oe place vs k=V ws/\dH F g ws ys
 |_,_,vs,_,_,.nil,hv,hy=>by cases hy;exact ⟨vs,rfl,hv⟩
 |_,_,vs,xs,ys,.cons (j:=j) (vs:=pv) (l:=kt) h t,hv,hy=>by
  obtain ⟨q,h1,hy⟩:=aq hy;obtain ⟨h2,hy⟩:=ba hy;obtain ⟨ws,w1,w2⟩:=OJ t (hv.eB h q.1) hy;refine ⟨ws,?_,w2⟩;show az (place j) (λq=>aT (ku pv.length q.2&&kQ (wW q.1 q.2) vs.length) (oe place (eB vs q.1 pv) kt) G)=_
  rw[h1];show aT (ku pv.length q.2&&kQ (wW q.1 q.2) vs.length) (oe place (eB vs q.1 pv) kt) G=_;rw[h.length,hv.length,h2];exact w1
def ahb (E:Env) (z:bb) (jo:List (Nat×bb)):UD->Z bb
 | .array _ e=>az (E.ty.get e) λie=>OK (tX ie.size) z jo
 | .struct fs=>OK (Sx E fs) z jo
 |_=>G
def aBQ {k:List (Nat×bc)} {m:List (Nat×bb)} {ys:bb} (hi:E.ty.get t=V i) (hk:PVs F g k m) (hy:ahb E (yK i.zero) m i.desc=V ys):∃u,same (MP E t k)=V (u,[])/\VA F g u (.agg ys):=by
 have key:∃ws,Tv i.desc E i.zero k=V (.agg ws)/\dH F g ws ys:=by
  generalize i.desc=d at hy;unfold ahb at hy;split at hy
  ·obtain ⟨ie,hie,hy⟩:=aq hy;obtain ⟨ws,w1,w2⟩:=OJ hk uF hy;refine ⟨ws,?_,w2⟩;show az (E.ty.get _) (λie=>MT (oe (tX ie.size) i.zero k))=_
   rw[hie];show MT (oe (tX ie.size) i.zero k)=_;rw[w1];rfl
  ·obtain ⟨ws,w1,w2⟩:=OJ hk uF hy;refine ⟨ws,?_,w2⟩;show MT (oe (Sx E _) i.zero k)=_;rw[w1];rfl
  ·cases hy
 obtain ⟨ws,w1,w2⟩:=key;refine ⟨.agg ws,?_,.agg w2⟩;show same (az (E.ty.get t) λi=>Tv i.desc E i.zero k)=_
 rw[hi];show same (Tv i.desc E i.zero k)=_;rw[w1];rfl
def arrE:UD->Z (Nat×pJ)
 | .array n e=>V (n,e)
 |_=>G
def ars (E:Env) (t:pJ) (k:Nat):Z TI:=az (E.ty.get t) λi=>az (arrE i.desc) λq=>az (E.ty.get q.2) λie=>aT (kQ (LJ k) q.1) (V ie) G
def TB {ie:TI} (h:ars E t k=V ie):∃i n e,E.ty.get t=V i/\i.desc= .array n e/\E.ty.get e=V ie/\kQ (LJ k) n=M:=by
 obtain ⟨i,hi,h⟩:=aq h;obtain ⟨q,hq,h⟩:=aq h;obtain ⟨ie',hie,h⟩:=aq h;obtain ⟨hk,h⟩:=ba h;cases h;cases hd:i.desc<;>rw[hd] at hq<;>cases hq
 exact ⟨i,_,_,hi,hd,hie,hk⟩
def aAo (bs:cT):UD->AV->Z Int
 | .slice _,.sl _ _ _ n _=>V (n:Int)
 | .slice _,.lit .cq=>V 0
 | .slice _,.ms _ _ _ n=>V (n:Int)
 | .string,.lit (.str b)=>V (b.size:Int)
 | .map _ _,.mp K=>(match lk K bs with|some (.map es)=>V (es.length:Int)|_=>G)
 | .map _ _,.lit .pC=>V 0
 |_,_=>G
def aJW {d:UD} {n:Int} {y:AV} (r:Rel F g Y c s T H) (hn:aAo s.bs d y=V n) (hv:VA F g v y):BZ d v H=V (.int .i64 (.lit n)):=by
 have key:∀{n':Nat},QN v=V n'->n=(n':Int)->az (QN v) (λn=>V (wH n))=V (SV.int .i64 (.lit n)):=λ{n'} h1 h2=>by
  rw[h1,h2];rfl
 unfold aAo at hn;split at hn
 ·cases hn;rename_i n0 Q;exact key (n':=n0) (by cases hv<;>rfl) rfl
 ·cases hn;cases hv;rfl
 ·cases hn;rename_i n0;exact key (n':=n0) (by cases hv<;>rfl) rfl
 ·cases hn;cases hv;rfl
 ·split at hn
  ·rename_i K _ es hb;cases hn;cases hv;obtain ⟨q,_,q3⟩:=r.bx K _ hb;generalize Y K=L at q q3;cases q with
   | @map _ ms cl hk hv hw=>
   show az (kN (H (g K).n)) (λp=>V (wH p.1.length))=_
   rw[(q3 ((g K).n,.map ms cl) (by simp)).1]
   show V (wH ms.length)=_;rw[show ms.length=es.length by simpa using hk.length];rfl
  ·cases hn
 ·cases hn;cases hv;rfl
 ·cases hn
def apw (mx:Bool):AV->AV->Z AV
 | .lit (.int k (.lit m)),.lit (.int k' (.lit n))=>aT (ij k k') (V (.int k (aT mx (if m<n then n else m) (if n<m then n else m)))) G
 |_,_=>G
def avW {x y z:AV} (hz:apw mx x y=V z) (hv:VA F g v x) (hw:VA F g w y):∃u,same (Yj E mx v w)=V (u,[])/\VA F g u z:=by
 unfold apw at hz;split at hz
 ·obtain ⟨hk,hz⟩:=ba hz;cases hz;cases hv;cases hw;rename_i k m k' n;refine ⟨_,?_,.lit _⟩;cases mx
  ·show V (SV.int k (aT (CH n m) (.lit n) (.lit m)),[])=V (SV.int k (.lit (if n<m then n else m)),[])
   rw[xC,cE];by_cases hc:n<m<;>simp[hc]
  ·show V (SV.int k (aT (CH m n) (.lit n) (.lit m)),[])=V (SV.int k (.lit (if m<n then n else m)),[])
   rw[xC,cE];by_cases hc:m<n<;>simp[hc]
 ·cases hz
def bltL (E:Env) (s:LS) (b:Builtin) (aa:List Ew) (ts:List pJ):Z AV:=
 match b,aa,ts with
 | .len,[a],[t]=>az (E.ty.get t) λi=>az (aAo s.bs i.desc (dU s.ts a)) λn=>V (.int .i64 n)
 | .min,[a,b],_=>apw I (dU s.ts a) (dU s.ts b)
 | .max,[a,b],_=>apw M (dU s.ts a) (dU s.ts b)
 |_,_,_=>G
def HC (x:AV):Z AV:=aT (sM x) G (V x)
def qc {x y:AV} (h:HC x=V y):x=y/\x≠ .undef:=by
 unfold HC at h;cases hx:sM x with
 |true=>rw[hx] at h;cases h
 |false=>rw[hx] at h;cases h;exact ⟨rfl,JA hx⟩
def aPA:AV->Bool
 | .el _ _ _ _| .kh _| .fn _ _ _=>M
 |_=>I
def Sw (E:Env) (s:LS) (op:Op):Z AV:=
 match op with
 | .move a=>HC (dU s.ts a)
 | .assign a=>HC (dU s.ts a)
 | .pick c a b=>(match dU s.ts c with| .lit (.bool t)=>HC (dU s.ts (aT t a b))|_=>G)
 | .nilCheck a=>aT (aPA (dU s.ts a)) (V (dU s.ts a)) G
 | .load t a=>az (E.ty.get t) λi=>az (HC (dU s.ts a)) λy=>Jy i s.bs y
 | .fieldAddr t a f=>az (HQ E t f) λp=>az (HC (dU s.ts a)) λy=>axE p y
 | .field t a f=>az (HQ E t f) λp=>az (HC (dU s.ts a)) λy=>az (ahl y) λcs=>wk p.2 cs p.1
 | .extract a i=>(match dU s.ts a with| .dr xs=>xs[i]? |_=>G)
 | .binOp op t a b _=>cC (HC (dU s.ts a)) (HC (dU s.ts b)) λx y=>arf E op t x y
 | .unOp op _ a=>az (HC (dU s.ts a)) λy=>unL op y
 | .convert src dst a=>cC (E.ty.get src) (E.ty.get dst) λ_ i2=>az (HC (dU s.ts a)) λy=>aqT i2.desc y
 | .makeFunc (.func f) a c=>aT (qV (qu s.ts a.toList)) (aT (qV (qu s.ts c.toList)) (V (.fn f (qu s.ts a.toList) (qu s.ts c.toList))) G) G
 | .build t parts=>cC (E.ty.get t) (SA s.ts parts.toList) λi m=>az (ahb E (yK i.zero) m i.desc) λys=>V (.agg ys)
 | .index t a ix=>(match dU s.ts a,dU s.ts ix with
  | .agg cs,.lit (.int _ (.lit (.ofNat k)))=>az (ars E t k) λie=>wk ie cs (B' k ie.size)
  |_,_=>G)
 | .indexAddr t a ix=>(match dU s.ts a,dU s.ts ix with
  | .el K z 0 off,.lit (.int _ (.lit (.ofNat k)))=>az (ars E t k) λie=>V (.el K z 0 (wW off (B' k ie.size)))
  |_,_=>G)
 | .call c=>(match c.callee with
  | .builtin b=>aT (qV (qu s.ts c.args.toList)) (bltL E s b c.args.toList c.argTypes.toList) G
  |_=>G)
 |_=>G
def avs {op:Op} {x:AV} (hx:Sw E s op=V x):Ok E pn op s s x []:=by
 unfold Sw at hx;split at hx
 ·obtain ⟨rfl,h2⟩:=qc hx;exact .un (f:=λ_ v=>V (v,[])) (λ_ _ _=>rfl) rfl h2 λr hv=>⟨_,rfl,hv⟩
 ·obtain ⟨rfl,h2⟩:=qc hx;exact .un (f:=λ_ v=>V (v,[])) (λ_ _ _=>rfl) rfl h2 λr hv=>⟨_,rfl,hv⟩
 ·split at hx
  ·rename_i t hc;obtain ⟨rfl,h2⟩:=qc hx;refine .val λ{F g Y c T H} r=> ?_
   obtain ⟨v,v1,v2⟩:=r.val hc (by simp)
   obtain ⟨w,w1,w2⟩:=r.val rfl h2;cases v2;refine ⟨w,λ_=> ?_,w2⟩
   show az (dB T _) (λv=>az (ug v) λb'=>one T (aT b' _ _) λv=>V (v,[]))=_
   rw[v1];show one T (aT t _ _) (λv=>V (v,[]))=_
   rw[one,w1];rfl
  ·cases hx
 ·obtain ⟨h1,hx⟩:=ba hx;cases hx;refine .un (f:=λ_ v=>same (aaC v)) (λ_ _ _=>rfl) rfl (λe=>by rw[e] at h1;cases h1) λ{F g Y c T H v} r hv=>⟨v,?_,hv⟩
  generalize dU s.ts _=y at h1 hv;cases y<;>first|(cases h1;done)|(cases hv<;>rfl)
 ·obtain ⟨i,hi,hx⟩:=aq hx;obtain ⟨y,hy,hx⟩:=aq hx;obtain ⟨rfl,hn⟩:=qc hy;exact .un (f:=λH v=>same (rm E H _ v)) (λ_ _ _=>rfl) rfl hn λr hv=>amD hi hx r hv
 ·obtain ⟨p,hp,hx⟩:=aq hx;obtain ⟨y,hy,hx⟩:=aq hx;obtain ⟨rfl,hn⟩:=qc hy;exact .un (f:=λ_=>rK E _ _) (λ_ _ _=>rfl) rfl hn λr hv=>aBn hp hx hv
 ·obtain ⟨p,hp,hx⟩:=aq hx;obtain ⟨y,hy,hx⟩:=aq hx;obtain ⟨rfl,hn⟩:=qc hy;obtain ⟨cs,hc,hx⟩:=aq hx;exact .un (f:=λ_=>De E _ _) (λ_ _ _=>rfl) rfl hn λr hv=>by
   obtain ⟨vs,rfl,q⟩:=YJ hc hv;exact aBm hp q hx
 ·split at hx
  ·rename_i xs ha;exact .un (f:=λ_ v=>az (RW v) λvs=>same (vs[_]?)) (λ_ _ _=>rfl) ha (by simp) λr hv=>by
    cases hv with
    | @dr _ vs _ q=>
    obtain ⟨u,u1,u2⟩:=q.get hx;exact ⟨u,by show same (vs[_]?)=_;rw[u1];rfl,u2⟩
  ·cases hx
 ·obtain ⟨y,z,hy,hz,hx⟩:=bU hx;obtain ⟨rfl,hn⟩:=qc hy;obtain ⟨rfl,hm⟩:=qc hz;exact .bi (f:=λv u=>same (Ri E _ _ _ _ v u)) (λ_ _ _=>rfl) rfl hn rfl hm λhv hw=>by
   obtain ⟨u,u1,u2⟩:=aKl hv hw hx;exact ⟨u,by rw[u1];rfl,u2⟩
 ·obtain ⟨y,hy,hx⟩:=aq hx;obtain ⟨rfl,hn⟩:=qc hy;exact .un (f:=λ_ v=>same (unA _ v)) (λ_ _ _=>rfl) rfl hn λr hv=>aOX hx hv
 ·obtain ⟨i,i2,h1,h2,hx⟩:=bU hx;obtain ⟨y,hy,hx⟩:=aq hx;obtain ⟨rfl,hn⟩:=qc hy;exact .un (f:=λ_ v=>same (To E _ _ v)) (λ_ _ _=>rfl) rfl hn λr hv=>aIh h1 h2 hx hv
 ·rename_i f a c;obtain ⟨h1,hx⟩:=ba hx;obtain ⟨h2,hx⟩:=ba hx;cases hx;refine .val λ{F g Y _ T H} r=> ?_
  obtain ⟨vs,v1,v2⟩:=r.gA h1;obtain ⟨ws,w1,w2⟩:=r.gA h2;refine ⟨.fn (.func f) vs ws,λ_=> ?_,.fn _ v2 w2⟩
  show aT (afu (.func f)) (cC (gA T a.toList) (gA T c.toList) λl m=>V (SV.fn (.func f) l m,[])) G=_
  rw[v1,w1];rfl
 ·obtain ⟨i,m,h1,h2,hx⟩:=bU hx;obtain ⟨ys,h3,hx⟩:=aq hx;cases hx;refine .val λ{F g Y c T H} r=> ?_
  obtain ⟨k,k1,k2⟩:=QE r h2;obtain ⟨u,u1,u2⟩:=aBQ h1 k2 h3;refine ⟨u,λ_=> ?_,u2⟩
  show az (ma T _) (λjo=>same (MP E _ jo))=_
  rw[k1];exact u1
 ·split at hx
  ·rename_i cs _ k ha By;obtain ⟨ie,hie,hx⟩:=aq hx;obtain ⟨i,n,e,h1,h2,h3,h4⟩:=TB hie;exact .bi (f:=λv u=>az (oP u) λk=>Ad E _ k v) (λ_ _ _=>rfl) ha (by simp) By (by simp) λhv hw=>by
    cases hv with
    | @agg _ vs _ q=>
    cases hw;obtain ⟨u,u1,u2⟩:=yd q hx;refine ⟨u,?_,u2⟩;show az (E.ty.get _) (λi=>agb i.desc E k (.agg vs))=_
    rw[h1];show agb i.desc E k (.agg vs)=_;rw[h2];show cC (V vs) (E.ty.get e) (λcs ie=>aT (kQ (LJ k) n) (same (je ie cs (B' k ie.size))) G)=_
    rw[h3];show aT (kQ (LJ k) n) (same (je ie vs (B' k ie.size))) G=_;rw[h4,u1];rfl
  ·cases hx
 ·split at hx
  ·rename_i K z off _ k ha By;obtain ⟨ie,hie,hx⟩:=aq hx;obtain ⟨i,n,e,h1,h2,h3,h4⟩:=TB hie;cases hx;exact .bi (f:=λv u=>az (oP u) λk=>same (rp E _ v k)) (λ_ _ _=>rfl) ha (by simp) By (by simp) λ{F g v w} hv hw=>by
    cases hv;cases hw;refine ⟨.ptr (g K).n (0*z+(off+k*ie.size)),?_,.el K z 0 _ (by assumption)⟩
    show same (az (E.ty.get _) λi=>JF i.desc E (.ptr (g K).n (0*z+off)) k)=_
    rw[h1];show same (JF i.desc E (.ptr (g K).n (0*z+off)) k)=_;rw[h2];show same (aT (kQ (LJ k) n) (az (E.ty.get e) λie=>V (SV.ptr (g K).n (wW (0*z+off) (B' k ie.size)))) G)=_
    rw[h4,h3];show V (SV.ptr (g K).n (0*z+off+k*ie.size),[])=_;rw[gD]
  ·cases hx
 ·split at hx
  ·rename_i c _ b hc;obtain ⟨h1,hx⟩:=ba hx;refine .val λ{F g Y FG T H} r=> ?_
   obtain ⟨vs,v1,v2⟩:=r.gA h1;have key:∃u,(∀new,pM E H new b vs c.argTypes.toList=V (u,[]))/\VA F g u x:=by
    generalize c.args.toList=aa at v2 hx;generalize c.argTypes.toList=ts at hx;unfold bltL at hx;split at hx
    ·obtain ⟨i,hi,hx⟩:=aq hx;obtain ⟨n,hn,hx⟩:=aq hx;cases hx;cases v2 with|cons q1 q2=>
     cases q2;refine ⟨_,λ_=> ?_,.lit _⟩
     show az (E.ty.get _) (λi=>same (BZ i.desc _ H))=_
     rw[hi];show same (BZ i.desc _ H)=_;rw[aJW r hn q1];rfl
    ·cases v2 with|cons q1 q2=>
     cases q2 with|cons q2 q3=>
     cases q3;obtain ⟨u,u1,u2⟩:=avW hx q1 q2;exact ⟨u,λ_=>u1,u2⟩
    ·cases v2 with|cons q1 q2=>
     cases q2 with|cons q2 q3=>
     cases q3;obtain ⟨u,u1,u2⟩:=avW hx q1 q2;exact ⟨u,λ_=>u1,u2⟩
    ·cases hx
   obtain ⟨u,u1,u2⟩:=key;refine ⟨u,λnew=> ?_,u2⟩
   show tY E T H new c=_;unfold tY;rw[hc];show az (gA T c.args.toList) (λaa=>pM E H new b aa c.argTypes.toList)=_
   rw[v1];exact u1 new
  ·cases hx
 ·cases hx
def elN {id f:Nat} {cp:Cp} (e:g K=⟨id,cp,M⟩):VA F g (.ptr id f) (.el K 0 0 f):=by
 have:=VA.el (F:=F) (g:=g) K 0 0 f (by rw[e])
 rwa[e,cg] at this
def sK {id s:Nat} {cp:Cp} (e:g K=⟨id,cp,M⟩):VA F g (.sl id 0 n cp) (.ms K s 0 n):=by
 have:=VA.ms (F:=F) (g:=g) (K:=K) s 0 n (by rw[e])
 rw[e,mK] at this;cases cp<;>exact this
def aqr {id:Nat} {cp:Cp} {xs:bb} (h:g K=⟨id,cp,M⟩) (q:dH F g svs xs):eT F g K (.flat e xs) [(id,.cells e svs)]:=by
 have:=eT.flat (K:=K) (e:=e) q;rwa[h] at this
def mN {id s:Nat} {cp:Cp} {Q:bz} (h:g K=⟨id,cp,M⟩) (hz:z=M->Q≠ []) (hu:∀r∈Q,r.length=s) (hc:zf e s Q.length svs.length cp) (q:dH F lH (svs.take (Q.length*s)) Q.flatten):eT F g K (.rows z e s Q) [(id,.cells e svs)]:=by
 have:=eT.bY (F:=F) (g:=g) (K:=K) (z:=z) (e:=e) (by rw[h]) hz hu (by rw[h];exact hc) (TR.vw hu q) (o:= []) (λp hp=>by cases hp)
 rwa[h] at this
def BD (sz:Nat):Nat->bb->bz
 |0,_=> []
 |n+1,cs=>cs.take sz::BD sz n (cs.drop sz)
def agY {sz:Nat}:∀{n:Nat} {cs:bb},cs.length=n*sz->(BD sz n cs).length=n/\(∀r∈BD sz n cs,r.length=sz)/\(BD sz n cs).flatten=cs
 |0,cs,hl=>by
  rw[mK] at hl;rw[vk.1 hl];exact ⟨rfl,λr hr=>(by cases hr),rfl⟩
 |n+1,cs,hl=>by
  rw[fW,so] at hl;obtain ⟨a,b,c⟩:=agY (sz:=sz) (n:=n) (cs:=cs.drop sz) (by rw[jx];omega)
  refine ⟨by show (BD sz n (cs.drop sz)).length+1=_;rw[a],λr hr=> ?_,?_⟩
  ·rcases da.1 (show r∈cs.take sz::BD sz n (cs.drop sz) from hr) with rfl|hr
   ·rw[dz];omega
   ·exact b r hr
  ·show cs.take sz++(BD sz n (cs.drop sz)).flatten=cs;rw[c,C4]
def X6 (z:bb):Nat->bb
 |0=> []
 |n+1=>z++X6 z n
def aeW {z:bc} {x:bb} (hz:dH F g z x):∀n,dH F g (rep z n) (X6 x n)
 |0=>.nil
 |n+1=>hz.append (aeW hz n)
def X5 (z:bb):∀n,(X6 z n).length=n*z.length
 |0=>by simp[X6]
 |n+1=>by show (z++X6 z n).length=_;rw[gy,X5 z n,fW,so,C1]
def ZC {place:Nat->Z (Nat×Nat)}:∀{m:List (Nat×bb)} {xs ys:bb},OK place xs m=V ys->ys.length=xs.length
 | [],_,_,hy=>by cases hy;rfl
 |p::rest,xs,ys,hy=>by
  obtain ⟨q,h1,hy⟩:=aq hy;obtain ⟨h2,hy⟩:=ba hy;rw[ZC hy];rw[bG] at h2;have e1:p.2.length=q.2:=(beq_iff _ _).1 h2.1;have e2:q.1+q.2<=xs.length:=wN h2.2;unfold gQ;rw[gy,gy,dz,jx,show wW q.1 p.2.length=q.1+p.2.length from rfl];omega
def Qg {ie:TI} (h:nN ie=M):ie.zero.length=ie.size:=by
 unfold nN at h;rw[bG,bG] at h;exact (beq_iff _ _).1 h.2.2
def ON (E:Env) (t:pJ):Z (pJ×TI):=az (E.ty.get t) λi=>az (po i.desc) λe=>az (E.ty.get e) λie=>V (e,ie)
def yT {p:pJ×TI} (h:ON E t=V p):∃i,E.ty.get t=V i/\po i.desc=V p.1/\E.ty.get p.1=V p.2:=by
 obtain ⟨i,hi,h⟩:=aq h;obtain ⟨e,he,h⟩:=aq h;obtain ⟨ie,hie,h⟩:=aq h;cases h;exact ⟨i,hi,he,hie⟩
def afj (E:Env) (s:LS) (K:Nat) (op:Op):Z (Bx×AV):=
 match op with
 | .box e a=>az (Ey (dU s.ts a)) λxs=>aT (mE K (lz xs)) G (V (.flat e xs,.loc K 0))
 | .alloc e=>az (E.ty.get e) λi=>V (.flat e (yK i.zero),.loc K 0)
 | .buildSlice t len parts=>cC (ON E t) (SA s.ts parts.toList) λp m=>aT (nN p.2&&kQ (B' len p.2.size) 16777216) (az (OK (tX p.2.size) (X6 (yK p.2.zero) len) m) λys=>
   aT (lz ys).isEmpty (V (.rows I p.1 p.2.size (BD p.2.size len ys),.ms K p.2.size 0 len)) (aT (ku len 1 && !mE K (lz ys)) (V (.flat p.1 ys,.ms K p.2.size 0 1)) G)) G
 | .makeMap _ G=>V (.map [],.mp K)
 | .range t a=>az (E.ty.get t) λi=>aT (HG i.desc) (match dU s.ts a with| .lit (.str b)=>V (.iter b 0,.it K)|_=>G) G
 |_=>G
def Oy {l:bJ} (h:mE K l=I):∀k∈l,k≠K:=λk hm e=>by
 rw[(tD K l).2 (e ▸ hm)] at h;cases h
def avr {op:Op} {p:Bx×AV} (hf:s.free K) (hp:pn K=I) (hx:afj E s K op=V p):Ok E pn op s (s.set K p.1) p.2 [K]:=by
 unfold afj at hx;split at hx
 ·rename_i e a;obtain ⟨xs,h1,hx⟩:=aq hx;rw[cE] at hx;split at hx
  ·cases hx
  ·rename_i hm;cases hx;refine .lay hp hf λ{F g Y c T H new} r=> ?_
   obtain ⟨v,v1,v2⟩:=r.val rfl (FI h1);obtain ⟨vs,w1,w2⟩:=FH h1 v2;refine ⟨.ptr new 0,.cells e vs,.k 1,?_,λg' e1 e2=>⟨elN e1,aqr e1 (w2.same (.refl F) λk hk=>e2 k (Oy (by simpa using hm) k hk))⟩⟩
   show one T a (apr new e)=_;rw[one,v1];show az v.cells _=_;rw[w1];rfl
 ·rename_i e;obtain ⟨i,h1,hx⟩:=aq hx;cases hx;exact .lay hp hf λ{F g Y c T H new} r=>⟨.ptr new 0,.cells e i.zero,.k 1,by show az (E.ty.get e) _=_;rw[h1];rfl,λg' e1 e2=>⟨elN e1,aqr e1 uF⟩⟩
 ·rename_i t len parts;obtain ⟨q,m,h1,h2,hx⟩:=bU hx;obtain ⟨h3,hx⟩:=ba hx;obtain ⟨ys,h4,hx⟩:=aq hx;obtain ⟨i,hi,he,hie⟩:=yT h1;have pN:=(jK.1 h3).1;have hlen:ys.length=len*q.2.size:=by rw[ZC h4,X5,yK,mL,Qg pN]
  have run:∀{F:Hf} {g:Gb} {Y:Nat->Ow} {c:Nat->cD} {T:Tf} {H:Hf} {new:Nat},Rel F g Y c s T H->∃ws,dH F g ws ys/\vu E (.buildSlice t len parts) T H new=V (.sl new 0 len (.k len),[(new,V (.cells q.1 ws))]):=λ{F g Y c T H new} r=>by
   obtain ⟨k,k1,k2⟩:=QE r h2;obtain ⟨ws,w1,w2⟩:=OJ k2 (aeW uF len) h4;refine ⟨ws,w2,?_⟩;show az (ma T parts.toList) (λjo=>qb E new t len jo)=_
   rw[k1];show az (E.ty.get t) _=_;rw[hi];show az (po i.desc) _=_;rw[he];show az (E.ty.get q.1) _=_;rw[hie];show aT (nN q.2&&kQ (B' len q.2.size) 16777216) (az (oe (tX q.2.size) (rep q.2.zero len) k) λcs=>V (SV.sl new 0 len (.k len),[(new,V (SO.cells q.1 cs))])) G=_
   rw[h3,w1];rfl
  rw[cE] at hx;split at hx
  ·rename_i h5;cases hx;obtain ⟨c1,c2,c3⟩:=agY hlen;refine .lay hp hf λ{F g Y c T H new} r=> ?_
   obtain ⟨ws,w2,w3⟩:=run (new:=new) r;refine ⟨_,_,.k len,w3,λg' e1 e2=>⟨sK e1,mN e1 (λe=>by cases e) c2 (by rw[c1];exact ⟨de _,by rw[w2.length,hlen]⟩) ?_⟩⟩
   rw[c1,c3,jz (by rw[w2.length,hlen];exact de _)]
   exact w2.sI h5
  ·obtain ⟨h6,hx⟩:=ba hx;cases hx;rw[bG] at h6;obtain rfl:=(beq_iff _ _).1 h6.1;refine .lay hp hf λ{F g Y c T H new} r=> ?_
   obtain ⟨ws,w2,w3⟩:=run (new:=new) r;exact ⟨_,_,.k 1,w3,λg' e1 e2=>⟨sK e1,aqr e1 (w2.same (.refl F) λk hk=>e2 k (Oy (by simpa using h6.2) k hk))⟩⟩
 ·cases hx;refine .lay hp hf λ{F g Y c T H new} r=>⟨.mp new,.map [] 0,.k 0,rfl,λg' e1 e2=>⟨?_,?_⟩⟩
  ·have:=VA.mp (F:=F) (g:=g') K;rwa[e1] at this
  ·have:=eT.map (F:=F) (g:=g') (K:=K) (es:= []) (ms:= []) (c:=0) .nil .nil ⟨by simp,by simp⟩
   rwa[e1] at this
 ·rename_i t a;obtain ⟨i,h1,hx⟩:=aq hx;obtain ⟨h2,hx⟩:=ba hx;split at hx
  ·rename_i b ha;cases hx;refine .lay hp hf λ{F g Y c T H new} r=> ?_
   obtain ⟨v,v1,v2⟩:=r.val ha (by simp)
   cases v2;refine ⟨.ptr new 0,.pY b 0,.k 0,?_,λg' e1 e2=>⟨?_,?_⟩⟩
   ·show one T a (Ac E H new t)=_;rw[one,v1];show az (E.ty.get t) _=_;rw[h1];show az (Hu i.desc (.str b) H) _=_;generalize i.desc=d at h2;cases d<;>first|(cases h2;done)|rfl
   ·have:=VA.it (F:=F) (g:=g') K;rwa[e1] at this
   ·have:=eT.iter (F:=F) (g:=g') (K:=K) (s:=b) (pos:=0);rwa[e1] at this
  ·cases hx
 ·cases hx
def Sv (E:Env) (s:LS) (op:Op):Z (Nat×Bx):=
 match op with
 | .store t a c=>cC (E.ty.get t) (Ey (dU s.ts c)) λi xs=>(match dU s.ts a with
  | .el K _ j off=>(match lk K s.bs with
   |some (.flat e cs)=>zer j (aT (ku xs.length i.size&&kQ (wW off xs.length) cs.length) (V (K,.flat e (gQ cs off xs))) G)
   |_=>G)
  |_=>G)
 |_=>G
def Zh {id:Nat} (hi:E.ty.get t=V i) (hw:w.cells=V vs) (hH:H id=V (.cells e svs)) (hl:(ku vs.length i.size&&kQ (wW off vs.length) svs.length)=M):
  unit (wQ E H t w (.ptr id off))=V (.dr [],[(id,V (.cells e (eB svs off vs)))]):=by
 show unit (vd (E.ty.get t) w.cells (mh (H id)) λi xs p=>aT (ku xs.length i.size&&kQ (wW off xs.length) p.2.length) (V [(id,V (SO.cells p.1 (eB p.2 off xs)))]) G)=_
 rw[hi,hw,hH];show unit (aT (ku vs.length i.size&&kQ (wW off vs.length) svs.length) (V [(id,V (SO.cells e (eB svs off vs)))]) G)=_;rw[hl];rfl
def avq {op:Op} {p:Nat×Bx} (hx:Sv E s op=V p):Ok E pn op s (s.set p.1 p.2) (.dr []) [p.1]:=by
 unfold Sv at hx;split at hx
 ·rename_i t a b;obtain ⟨i,xs,h1,h2,hx⟩:=bU hx;split at hx
  ·rename_i K z j off ha;split at hx
   ·rename_i e cs hb;obtain ⟨rfl,hx⟩:=acH hx;obtain ⟨h3,hx⟩:=ba hx;cases hx;refine .wr hb λ{F g Y c T H} r=> ?_
    obtain ⟨v,v1,v2⟩:=r.val ha (by simp)
    obtain ⟨w,w1,w2⟩:=r.val rfl (FI h2);obtain ⟨vs,u1,u2⟩:=FH h2 w2;cases v2;obtain ⟨svs,hφ,q,hH⟩:=r.flat hb;refine ⟨.dr [],_,.cells e (eB svs off vs),[],[],hφ,λnew=> ?_,.dr .nil,.flat (q.eB u2 off),.refl _⟩
    show two T a b (λa v=>unit (wQ E H t v a))=_
    rw[two,v1,w1];show unit (wQ E H t w (.ptr (g K).n (0*z+off)))=_;rw[mK,cg];exact Zh h1 u1 hH (by rw[u2.length,q.length];exact h3)
   ·cases hx
  ·cases hx
 ·cases hx
end
section
variable {F F':Hf} {g g':Gb} {Y:Nat->Ow} {c:Nat->cD} {s s':LS} {T:Tf} {H:Hf} {E:Env} {pn:Nat->Bool}
variable {f N:Nat} {f8:Type}
def gb {x:Z J} {a:J} {f:J->Z γ} (h:x=V a):az x f=f a:=by rw[h];rfl
def EA {x:Z J} {y:Z f8} {a:J} {b:f8} {f:J->f8->Z γ} (h:x=V a) (k:y=V b):cC x y f=f a b:=by rw[h,k];rfl
def Fz {J:Type} {s:Nat}:∀{Q:List (List J)},(∀r∈Q,r.length=s)->∀l,(Q.drop l).flatten=Q.flatten.drop (l*s)
 |_,_,0=>by simp
 | [],_,l+1=>by simp
 |r::Q,hu,l+1=>by
  rw[List.drop_succ_cons,Fz (λq hq=>hu q (by simp[hq])) l,pX,fW,so,C1,<-sw,List.drop_left' (hu r (by simp))]
def Mx {J:Type} {s:Nat}:∀{Q:List (List J)},(∀r∈Q,r.length=s)->∀l,(Q.take l).flatten=Q.flatten.take (l*s)
 |_,_,0=>by simp
 | [],_,l+1=>by simp
 |r::Q,hu,l+1=>by
  rw[V6,pX,Mx (λq hq=>hu q (by simp[hq])) l,pX,fW,so,C1,<-hu r (by simp),G4]
def agG {s lo:Nat} {Q:List (List J)} (hu:∀r∈Q,r.length=s):((Q.drop lo).take n).flatten=(Q.flatten.drop (lo*s)).take (n*s):=by
 rw[Mx (λr hr=>hu r (nG hr)),Fz hu]
def Sm {s:Nat} {Q:List (List J)} {R:List J} (hj:Q[j]? =V R):j*s+s<=Q.length*s:=by
 have:=js s (show j+1<=Q.length from (bO.1 hj).1);rwa[fW,so] at this
def aBk {s:Nat} {Q:List (List J)} {R:List J} (hu:∀r∈Q,r.length=s) (hj:Q[j]? =V R):(Q.flatten.drop (j*s)).take s=R:=by
 obtain ⟨dq,he⟩:=bO.1 hj;rw[<-Fz hu,sr dq,pX,he,G5 (hu R (bQ hj))]
def Bz {J:Type} (rows:List J) (n:Int):Z J:=if 0<=n then rows[n.toNat]? else G
def Qe {rows:List J} {n:Int} {R:J} (hg:Bz rows n=V R):∃k:Nat,n=k/\rows[k]? =V R:=by
 unfold Bz at hg;split at hg
 ·exact ⟨n.toNat,by omega,hg⟩
 ·cases hg
def azQ (sh:Sh) (x:AV):AV:=
 match sh with
 | .d=>x
 | .o _ _=>.undef
def Jf:ee->bb->bb
 |_,[]=> []
 |l,x::r=>azQ (l.headD .d) x::Jf l.tail r
def Aj (sh:Sh) (x:AV):AV:=aT (kG x).isEmpty (azQ sh x) .undef
def wi:ee->bb->bb
 |_,[]=> []
 |l,x::r=>Aj (l.headD .d) x::wi l.tail r
def D8:Nat->ee->bb->fk
 |_,_,[]=> []
 |p,l,x::r=>aT (sM (Aj (l.headD .d) x)) (aT (sM x) (D8 (LJ p) l.tail r) ((p,x)::D8 (LJ p) l.tail r)) (D8 (LJ p) l.tail r)
def kX.see:∀{l vs xs L},kX F l vs xs L->dH F lH vs (Jf l xs)
 |_,_,_,_,.nil=>.nil
 |l,_,_,_,.cons (v:=v) q t=>.cons (by
  show VA F lH v (azQ (l.headD .d) _);generalize l.headD .d=sh at q;cases sh with
  |d=>cases q with
   |d q=>exact q
   |any=>exact .undef v
  |o b l=>exact .undef v) t.see
def TR.at {s:Nat}:∀{l vs Q L} {j:Nat} {R},TR F l vs Q L->(∀r∈Q,r.length=s)->Q[j]? =V R->∃L0,kX F l ((vs.drop (j*s)).take s) R L0
 |_,_,_,_,_,_,.nil,_,h=>by cases h
 |l,_,_,_,0,R,.cons (vs:=vs) (a:=a) q t,hu,h=>by
  obtain rfl:_=R:=by simpa using h
  exact ⟨a,by rw[mK,ph,G5 (by rw[q.length];exact hu _ (by simp))];exact q⟩
 |l,_,_,_,j+1,R,.cons (vs:=vs) q t,hu,h=>by
  have hl:vs.length=s:=by rw[q.length];exact hu _ (by simp)
  have:=t.at (λr hr=>hu r (dQ _ hr)) (show _=V R by simpa using h)
  rwa[fW,so,C1,<-sw,<-hl,Wc,hl]
def TR.take {s:Nat}:∀{l vs Q L} (n:Nat),TR F l vs Q L->(∀r∈Q,r.length=s)->∃L',L'.Sublist L/\TR F l (vs.take (n*s)) (Q.take n) L'
 |_,_,_,_,0,_,_=>⟨[],NV _,by simpa using .nil⟩
 |_,_,_,_,n+1,.nil,_=>⟨[],.refl _,by simpa using .nil⟩
 |l,_,_,_,n+1,.cons (vs:=vs) q t,hu=>by
  obtain ⟨L',h1,h2⟩:=t.take n λr hr=>hu r (dQ _ hr)
  refine ⟨_,(V5 _).append h1,?_⟩;rw[fW,so,C1,<-hu _ (j7),<-q.length,G4,V6,q.length,hu _ (j7)];exact .cons q h2
def TR.cut {s:Nat}:∀{l vs Q L} (n:Nat),TR F l vs Q L->(∀r∈Q,r.length=s)->∃A B,L=A++B/\TR F l (vs.take (n*s)) (Q.take n) A/\TR F l (vs.drop (n*s)) (Q.drop n) B
 |_,_,_,L,0,q,_=>⟨[],L,rfl,by simpa using .nil,by simpa using q⟩
 |_,_,_,_,n+1,.nil,_=>⟨[],[],rfl,by simpa using .nil,by simpa using .nil⟩
 |l,_,_,_,n+1,.cons (vs:=vs) (a:=a) q t,hu=>by
  obtain ⟨A,B,h1,h2,h3⟩:=t.cut n λr hr=>hu r (dQ _ hr)
  subst h1;have hl:vs.length=s:=by rw[q.length];exact hu _ j7
  have e:(n+1)*s=vs.length+n*s:=by rw[fW,so,hl];omega
  refine ⟨a++A,B,(j8 ..).symm,?_,?_⟩
  ·rw[e,G4,V6];exact .cons q h2
  ·rw[e,akX,List.drop_succ_cons];exact h3
def TR.append:∀{l vs Q L ws R L2},TR F l vs Q L->TR F l ws R L2->TR F l (vs++ws) (Q++R) (L++L2)
 |_,_,_,_,_,_,_,.nil,k=>k
 |_,_,_,_,_,_,_,.cons q t,k=>by rw[j8,j8];exact .cons q (t.append k)
def TC.put {x:AV} (sh:Sh) (h:VA F g v x):TC F sh v (Aj sh x) []:=by
 unfold Aj;rw[cE];split
 ·rename_i hk;cases sh with
  |d=>exact .d (h.sI hk)
  |o=>exact .any v
 ·exact .any v
def kX.afg:∀{l ws xs},dH F g ws xs->kX F l ws (wi l xs) []
 |_,_,_,.nil=>.nil
 |l,_,_,.cons h t=>.cons (a:= []) (TC.put _ h) (kX.afg t)
def kX.put:∀{l vs R L ws xs},kX F l vs R L->dH F g ws xs->xs.length<=R.length->∃L',L'.Sublist L/\kX F l (ws++vs.drop ws.length) (wi l xs++R.drop xs.length) L'
 |l,vs,R,L,_,_,q,.nil,_=>⟨L,.refl _,by simpa[wi] using q⟩
 |l,_,_,_,_,_,.nil,.cons h t,hl=>by cases hl
 |l,_,_,_,_,_,.cons (a:=a) q qs,.cons h t,hl=>by
  obtain ⟨L',h1,h2⟩:=qs.put t (by simpa using hl)
  exact ⟨L',h1.trans (NW _ _),.cons (a:= []) (TC.put _ h) (by simpa using h2)⟩
def kX.spl:∀{l vs R L ws xs} (f:Nat),kX F l vs R L->dH F g ws xs->f+xs.length<=R.length->∃L',L'.Sublist L/\kX F l (eB vs f ws) (gQ R f (wi (l.drop f) xs)) L'
 |l,vs,R,L,ws,xs,0,q,h,hl=>by
  obtain ⟨L',h1,h2⟩:=q.put h (by omega)
  refine ⟨L',h1,?_⟩;show kX F l (vs.take 0++ws++vs.drop (wW 0 ws.length)) (R.take 0++wi l xs++R.drop (wW 0 (wi l xs).length)) L';rw[show (wi l xs).length=xs.length by rw[<-(kX.afg (F:=F) (l:=l) h).length,h.length],show wW 0 ws.length=ws.length from cg _,show wW 0 xs.length=xs.length from cg _]
  exact h2
 |l,_,_,_,ws,xs,f+1,.nil,h,hl=>by simp at hl
 |l,_,_,_,ws,xs,f+1,.cons (v:=v) (vs:=vs) (x:=x) (xs:=R) q t,h,hl=>by
  obtain ⟨L',h1,h2⟩:=t.spl f h (by simp at hl;omega)
  refine ⟨_,(V5 _).append h1,?_⟩;have e1:eB (v::vs) (f+1) ws=v::eB vs f ws:=by
   show (v::vs).take (f+1)++ws++(v::vs).drop (f+1+ws.length)=v::(vs.take f++ws++vs.drop (f+ws.length));rw[show f+1+ws.length=f+ws.length+1 by omega];rfl
  have e2:∀ys,gQ (x::R) (f+1) ys=x::gQ R f ys:=λys=>by
   show (x::R).take (f+1)++ys++(x::R).drop (f+1+ys.length)=x::(R.take f++ys++R.drop (f+ys.length));rw[show f+1+ys.length=f+ys.length+1 by omega];rfl
  rw[e1,e2,show l.drop (f+1)=l.tail.drop f by cases l<;>simp]
  exact .cons q h2
def Sg {a v b:bc} (h:f+ws.length<=v.length):eB (a++(v++b)) (a.length+f) ws=a++(eB v f ws++b):=by
 show (a++(v++b)).take (a.length+f)++ws++(a++(v++b)).drop (a.length+f+ws.length)=a++((v.take f++ws++v.drop (f+ws.length))++b);rw[G4,akW (by omega),gD,akX,V4 h]
 simp
def XZ {R xs:bb} (h1:f+xs.length<=R.length):(gQ R f xs).length=R.length:=by
 show (R.take f++xs++R.drop (f+xs.length)).length=_;rw[gy,gy,dz,jx];omega
def BT (h1:f+xs.length<=R.length):(eB R f xs).length=R.length:=by
 show (R.take f++xs++R.drop (f+xs.length)).length=_;rw[gy,gy,dz,jx];omega
def TR.spl {s:Nat} {xs:bb} (h:dH F g ws xs) (hl:f+xs.length<=s):∀{l vs Q L} {j:Nat} {R},TR F l vs Q L->(∀r∈Q,r.length=s)->Q[j]? =V R->∃L',L'.Sublist L/\TR F l (eB vs (j*s+f) ws) (Q.set j (gQ R f (wi (l.drop f) xs))) L'
 |_,_,_,_,_,_,.nil,_,hj=>by cases hj
 |l,_,_,_,0,R,.cons (vs:=vs) (ws:=b) q t,hu,hj=>by
  obtain rfl:_=R:=by simpa using hj
  have hr:=hu _ (j7);obtain ⟨L',h1,h2⟩:=q.spl f h (by omega)
  refine ⟨_,h1.append (.refl _),?_⟩;have:=Sg (a:= []) (v:=vs) (b:=b) (f:=f) (ws:=ws) (by rw[h.length,q.length];omega)
  rw[mK,show eB (vs++b) (0+f) ws=eB vs f ws++b from this];exact .cons h2 t
 |l,_,_,_,j+1,R,.cons (vs:=vs) (ws:=b) q t,hu,hj=>by
  obtain ⟨L',h1,h2⟩:=t.spl h hl (λr hr=>hu r (dQ _ hr)) (show _=V R by simpa using hj)
  have hv:vs.length=s:=by rw[q.length];exact hu _ (j7)
  refine ⟨_,(V5 _).append h1,?_⟩;have hlen:=t.length λr hr=>hu r (dQ _ hr)
  have hjs:=Sm (s:=s) (show _=V R by simpa using hj)
  have:=Sg (a:=vs) (v:=b) (b:= []) (f:=j*s+f) (ws:=ws) (by rw[h.length];omega)
  rw[r4,r4,hv] at this;rw[show (j+1)*s+f=s+(j*s+f) by rw[fW];omega,this]
  exact .cons q h2
def P5 (h1:off+ws.length<=N) (h2:N<=vs.length):(eB vs off ws).take N=eB (vs.take N) off ws:=by
 show (vs.take off++ws++vs.drop (off+ws.length)).take N=(vs.take N).take off++ws++(vs.take N).drop (off+ws.length);have hl:(vs.take off++ws).length=off+ws.length:=by rw[gy,dz,fo (by omega)]
 rw[List.take_append,jz (by omega),hl,vZ,l6,fo (by omega)]
def auP {p:Nat} (h:off+ws.length<=vs.length):(eB vs off ws)[p]? =if p<off then vs[p]? else if p<off+ws.length then ws[p-off]? else vs[p]? :=by
 show (vs.take off++ws++vs.drop (off+ws.length))[p]? =_;have hl:(vs.take off).length=off:=by rw[dz];omega
 rw[j8];by_cases h1:p<off
 ·rw[aG h1,pd (by omega),eZ,aG h1]
 ·rw[aC h1,nF (by omega),hl]
  by_cases h2:p<off+ws.length
  ·rw[aG h2,pd (by omega)]
  ·rw[aC h2,nF (by omega),fp]
   congr 1;omega
def Rel.bY (r:Rel F g Y c s T H) {K:Nat} {z:Bool} {e sz:Nat} {l:ee} {Q:bz} {o:fk} (hb:lk K s.bs=V (.bY z e sz l Q o)):(Q= []/\o= []/\(g K).b=I/\Y K= [])\/
  ((g K).b=M/\∃svs L,Y K=((g K).n,.cells e svs)::L/\H (g K).n=V (.cells e svs)/\(z=M->Q≠ [])/\(∀r∈Q,r.length=sz)/\zf e sz Q.length svs.length (g K).c/\TR F l (svs.take (Q.length*sz)) Q L/\HoA F g svs o):=by
 obtain ⟨q,_,q3⟩:=r.bx K _ hb;generalize Y K=L at q q3;cases q with
 |nil h=>exact .inl ⟨rfl,rfl,h,rfl⟩
 |bY h1 h2 h3 h4 h5 h6=>exact .inr ⟨h1,_,_,rfl,(q3 (_,_) (by simp)).1,h2,h3,h4,h5,h6⟩
def Rel.row (r:Rel F g Y c s T H) {e:Nat} {l:ee} {Q:bz} {R:bb} {o:fk} (hb:lk K s.bs=V (.bY z e sz l Q o)) (hj:Q[j]? =V R):
  (g K).b=M/\∃svs L,Y K=((g K).n,.cells e svs)::L/\H (g K).n=V (.cells e svs)/\(∀r∈Q,r.length=sz)/\zf e sz Q.length svs.length (g K).c/\TR F l (svs.take (Q.length*sz)) Q L/\HoA F g svs o/\dH F lH ((svs.drop (j*sz)).take sz) (Jf l R)/\R.length=sz/\j*sz+sz<=svs.length:=by
 rcases r.bY hb with ⟨rfl,_⟩|⟨h1,svs,L,h2,h3,_,h4,h5,h6,h7⟩
 ·cases hj
 ·obtain ⟨L0,q⟩:=h6.at h4 hj;have hle:=Sm (s:=sz) hj;rw[vZ,l6,fo (by omega)] at q
  exact ⟨h1,svs,L,h2,h3,h4,h5,h6,h7,q.see,h4 R (bQ hj),kY hle (oD h5)⟩
structure cH where
 need:Prop
 got:Prop
 pf:got
def eqO (a b:Nat):cH:=⟨a=b,a=a,rfl⟩
structure oX where
 DV:List cH
 s:LS
 x:AV
 W:bJ
def jl:List cH->Prop
 | []=>True
 |q::l=>q.need/\jl l
def vg (E:Env) (pn:Nat->Bool) (op:Op) (s:LS) (r:oX):Prop:=jl r.DV->Ok E pn op s r.s r.x r.W
def eqH (j sz:Nat):bJ->fk->List cH
 |f::fs,p::o=>eqO p.1 (wW (B' j sz) f)::eqH j sz fs o
 |_,_=> []
def azZ (R:bb):bJ->fk->bb
 |f::fs,p::o=>azZ (R.set f p.2) fs o
 |_,_=>R
def dH.set:∀{vs xs} {i:Nat} {v:SV} {x:AV},dH F g vs xs->vs[i]? =V v->VA F g v x->dH F g vs (xs.set i x)
 |_,_,_,_,_,.nil,_,_=>.nil
 |_,_,0,_,_,.cons _ t,h,k=>by obtain rfl:=kR (show V _=V _ from h);exact .cons k t
 |_,_,i+1,_,_,.cons h t,hi,k=>.cons h (t.set (by simpa using hi) k)
def alZ {svs:bc} {j sz:Nat}:∀{fs:bJ} {o:fk} {R:bb},dH F g ((svs.drop (j*sz)).take sz) R->HoA F g svs o->(∀f∈fs,f<sz)->jl (eqH j sz fs o)->dH F g ((svs.drop (j*sz)).take sz) (azZ R fs o)
 | [],_,_,q,_,_,_=>q
 |_::_,[],_,q,_,_,_=>q
 |f::fs,p::o,R,q,ho,hf,ha=>by
  obtain ⟨h1,h2⟩:p.1=j*sz+f/\jl (eqH j sz fs o):=ha;obtain ⟨v,v1,v2⟩:=ho p (by simp)
  refine alZ (fs:=fs) (o:=o) (q.set (i:=f) ?_ v2) (λp hp=>ho p (dQ _ hp)) (λf hf'=>hf f (dQ _ hf')) h2
  rw[eZ,aG (hf f (by simp)),fp,<-h1]
  exact v1
def aaE (sz:Nat):bJ->Bool
 | []=>M
 |f::l=>kQ (LJ f) sz&&aaE sz l
def afF {sz:Nat}:∀{l:bJ},aaE sz l=M->∀f∈l,f<sz
 |_::_,h,f,hf=>by
  have h:=jK.1 (show (kQ (LJ _) sz&&aaE sz _)=M from h);rcases da.1 hf with rfl|hf
  ·exact (bR _ _).1 h.1
  ·exact afF h.2 f hf
def azS (E:Env) (s:LS) (op:Op) (R:bb) (fs:bJ) (ob:Prop->cH):Z oX:=
 match op with
 | .load t a=>az (E.ty.get t) λi=>(match dU s.ts a with
  | .el K sz j f=>(match lk K s.bs with
   |some (.bY z e Be l Q o)=>aT (ku sz Be&&(kQ (wW f i.size) sz&&(aaE sz fs&&(lz (Jf l R)).isEmpty))) (az (wk i (((azZ (Jf l R) fs o).drop f).take i.size) 0) λx=>V ⟨ob (Q[j]? =V R)::eqH j sz fs o,s,x,[]⟩) G
   |_=>G)
  |_=>G)
 | .indexAddr t a ix=>az (E.ty.get t) λi=>az (po i.desc) λe=>az (E.ty.get e) λie=>(match dU s.ts a,dU s.ts ix with
  | .sl _ _ sz _ Q,.lit (.int _ (.lit n))=>aT (ku ie.size sz) (V ⟨[ob (Bz Q n=V R)],s,.kh R,[]⟩) G
  |_,_=>G)
 |_=>G
def aga {ie:TI} {id m:Nat} {c:Cp} (hi:E.ty.get t=V i) (he:po i.desc=V e) (hie:E.ty.get e=V ie) (hk:k<m):same (rp E t (.sl id off m c) k)=V (.ptr id (off+k*ie.size),[]):=by
 unfold rp;rw[gb hi,uB he];show same (Di E e id off m k)=_;unfold Di;rw[hie,(bR _ _).2 hk];rfl
def aHq {op:Op} {R:bb} {ob:Prop->cH} (hJ:∀P,(ob P).need=P) {r:oX} (h:azS E s op R fs ob=V r):vg E pn op s r:=by
 unfold azS at h;split at h
 ·obtain ⟨i,hi,h⟩:=aq h;split at h
  ·rename_i K sz j f ha;split at h
   ·rename_i z e Be l Q o hb;obtain ⟨hc,h⟩:=ba h;obtain ⟨x,hx,h⟩:=aq h;cases h;simp only[bG] at hc;obtain ⟨h1,h2,h3,h4⟩:=hc;obtain rfl:=(beq_iff _ _).1 h1;have h2:f+i.size<=sz:=(bR _ _).1 h2;intro hh;obtain ⟨hj,hh⟩:=hh;rw[hJ] at hj;exact .un (f:=λH v=>same (rm E H _ v)) (λ_ _ _=>rfl) ha (by simp) λ{F g Y c T H v} r hv=>by
     cases hv;obtain ⟨_,svs,L,_,hH,_,_,_,ho,q,hR,hl⟩:=r.row hb hj;obtain ⟨u,u1,u2⟩:=yd (((alZ (q.sI h4) ho (afF h3) hh).drop f).take i.size) hx;rw[vZ,l6,sw,fo (by omega)] at u1
     exact ⟨u,OA hi (tj hH) (afl u1 (by omega)),u2⟩
   ·cases h
  ·cases h
 ·obtain ⟨i,hi,h⟩:=aq h;obtain ⟨e,he,h⟩:=aq h;obtain ⟨ie,hie,h⟩:=aq h;split at h
  ·rename_i m e' sz n0 Q _ n ha By;obtain ⟨h1,h⟩:=ba h;cases h;obtain rfl:=(beq_iff _ _).1 h1;intro hh;have hR:=hh.1;rw[hJ] at hR;obtain ⟨k,rfl,hk⟩:=Qe hR;exact .bi (f:=λv u=>az (oP u) λk=>same (rp E _ v k)) (λ_ _ _=>rfl) ha (by simp) By (by simp) λ{F g v w} hv hw=>by
    cases hw;cases hv with
    |nil=>cases hk
    |sle=>cases hk
    | @sl _ _ id off cp _ _ _ _ e2 svs hn hF hc hm hu hl q=>
    subst hn;have hle:=Sm (s:=ie.size) hk;have hRl:=hu R (bQ hk);refine ⟨_,aga hi he hie (bO.1 hk).1,.kh (yY hF (by omega) (by omega)) (by omega) ?_⟩
    have:=(q.drop (k*ie.size)).take ie.size;rw[aBk hu hk,vZ,l6,sw,fo (by omega)] at this
    rw[hRl];exact this
  ·cases h
 ·cases h
def aqe (E:Env) (s:LS) (op:Op):Z oX:=
 match op with
 | .load t a=>az (E.ty.get t) λi=>(match dU s.ts a with
  | .el K sz j f=>(match lk K s.bs with
   |some (.bY _ _ _ _ _ (p::_))=>aT (mT i.desc) G (V ⟨[eqO p.1 (wW (B' j sz) f)],s,p.2,[]⟩)
   |_=>G)
  |_=>G)
 |_=>G
def aHV {op:Op} {r:oX} (h:aqe E s op=V r):vg E pn op s r:=by
 unfold aqe at h;split at h
 ·obtain ⟨i,hi,h⟩:=aq h;split at h
  ·rename_i K sz j f ha;split at h
   ·rename_i p o hb;rw[cE] at h;split at h
    ·cases h
    ·rename_i hg;cases h;intro hh;have hp:p.1=j*sz+f:=hh.1;exact .un (f:=λH v=>same (rm E H _ v)) (λ_ _ _=>rfl) ha (by simp) λ{F g Y c T H v} r hv=>by
      cases hv;rcases r.bY hb with ⟨_,h,_⟩|⟨_,svs,L,_,hH,_,_,_,_,ho⟩
      ·cases h
      ·obtain ⟨v,v1,v2⟩:=ho p (by simp)
       refine ⟨v,OA hi (tj hH) ?_,v2⟩;unfold je;rw[cE,aC hg,<-hp];exact v1
   ·cases h
  ·cases h
 ·cases h
def aAB (E:Env) (s:LS) (op:Op) (k:Nat) (ob:Prop->cH):Z oX:=
 match op with
 | .indexAddr t a ix=>az (E.ty.get t) λi=>az (po i.desc) λe=>az (E.ty.get e) λie=>(match dU s.ts a,dU s.ts ix with
  | .ms K sz lo n,.lit (.int _ (.lit m))=>aT (ku ie.size sz) (V ⟨[ob (m=(k:Int)/\k<n)],s,.el K sz (wW lo k) 0,[]⟩) G
  |_,_=>G)
 |_=>G
def aHU {op:Op} {ob:Prop->cH} (hJ:∀P,(ob P).need=P) {r:oX} (h:aAB E s op k ob=V r):vg E pn op s r:=by
 unfold aAB at h;split at h
 ·obtain ⟨i,hi,h⟩:=aq h;obtain ⟨e,he,h⟩:=aq h;obtain ⟨ie,hie,h⟩:=aq h;split at h
  ·rename_i K sz lo n _ m ha By;obtain ⟨h1,h⟩:=ba h;cases h;obtain rfl:=(beq_iff _ _).1 h1;intro hh;have hm:=hh.1;rw[hJ] at hm;obtain ⟨rfl,hk⟩:=hm;exact .bi (f:=λv u=>az (oP u) λk=>same (rp E _ v k)) (λ_ _ _=>rfl) ha (by simp) By (by simp) λ{F g v w} hv hw=>by
    cases hw;cases hv with
    |sK=>cases hk
    |yI=>cases hk
    |ms _ _ _ hb=>
    refine ⟨_,aga hi he hie hk,?_⟩;rw[<-fW];exact .el K ie.size (lo+k) 0 hb
  ·cases h
 ·cases h
def Gk (Q:bz) (j f:Nat) (xs:bb):Z bz:=az (Q[j]?) λR=>V (Q.set j (gQ R f xs))
def azF (E:Env) (s:LS) (op:Op) (Q':bz) (ob:Prop->cH):Z oX:=
 match op with
 | .store t a c=>cC (E.ty.get t) (Ey (dU s.ts c)) λi xs=>(match dU s.ts a with
  | .el K sz j f=>(match lk K s.bs with
   |some (.bY z e Be l Q o)=>aT (ku sz Be&&(ku xs.length i.size&&kQ (wW f xs.length) sz)) (V ⟨[ob (Gk Q j f (wi (l.drop f) xs)=V Q')],s.set K (.bY z e sz l Q' (D8 (wW (B' j sz) f) (l.drop f) xs)),.dr [],[K]⟩) G
   |_=>G)
  |_=>G)
 |_=>G
def Yw:∀{l:ee} {ws:bc} {xs:bb} (p:Nat),dH F g ws xs->∀q∈D8 p l xs,p<=q.1/\∃v,ws[q.1-p]? =V v/\VA F g v q.2
 |_,_,_,_,.nil,_,h=>by cases h
 |l,_,_,p,.cons (v:=v) (vs:=vs) (x:=x) (xs:=xs) h t,q,hq=>by
  have ih:q∈D8 (LJ p) l.tail xs->p<=q.1/\∃w,(v::vs)[q.1-p]? =V w/\VA F g w q.2:=λhq=>by
   obtain ⟨h1,w,w1,w2⟩:=Yw (p+1) t q hq;exact ⟨by omega,w,by rw[show q.1-p=(q.1-(p+1))+1 by omega];exact w1,w2⟩
  have hq:q∈aT (sM (Aj (l.headD .d) x)) (aT (sM x) (D8 (LJ p) l.tail xs) ((p,x)::D8 (LJ p) l.tail xs)) (D8 (LJ p) l.tail xs):=hq;rw[cE,cE] at hq;split at hq
  ·split at hq
   ·exact ih hq
   ·rcases da.1 hq with rfl|hq
    ·exact ⟨de _,v,by rw[qX];rfl,h⟩
    ·exact ih hq
  ·exact ih hq
def aGP {op:Op} {Q':bz} {ob:Prop->cH} (hJ:∀P,(ob P).need=P) {r:oX} (h:azF E s op Q' ob=V r):vg E pn op s r:=by
 unfold azF at h;split at h
 ·obtain ⟨i,xs,hi,hx,h⟩:=bU h;split at h
  ·rename_i K sz j f ha;split at h
   ·rename_i z e Be l Q o hb;obtain ⟨hc,h⟩:=ba h;cases h;simp only[bG] at hc;obtain ⟨h1,h2,h3⟩:=hc;obtain rfl:=(beq_iff _ _).1 h1;have h3:f+xs.length<=sz:=(bR _ _).1 h3;intro hh;have hQ:=hh.1;rw[hJ] at hQ;obtain ⟨R,hj,hQ⟩:=aq hQ;cases hQ;refine .wr hb λ{F g Y c T H} r=> ?_
    obtain ⟨v,v1,v2⟩:=r.val ha (by simp)
    obtain ⟨w,w1,w2⟩:=r.val rfl (FI hx);obtain ⟨ws,u1,u2⟩:=FH hx w2;cases v2;obtain ⟨tf,svs,L,hφ,hH,hu,hc,q,ho,_,hR,hl⟩:=r.row hb hj;obtain ⟨L',hs,q'⟩:=q.spl u2 h3 hu hj;have hle:=Sm (s:=sz) hj;have hwl:=u2.length;refine ⟨.dr [],.cells e svs,.cells e (eB svs (j*sz+f) ws),L,L',hφ,λnew=> ?_,.dr .nil,.bY tf (λ_ e0=> ?_) (λr hr=> ?_) ?_ ?_ (λp hp=> ?_),hs⟩
    ·show two T _ _ (λa v=>unit (wQ E H _ v a))=_
     rw[two,v1,w1];exact Zh hi u1 hH (by rw[hwl,bG];exact ⟨h2,(bR _ _).2 (show j*sz+f+xs.length<=svs.length by omega)⟩)
    ·have:=bF aa9 e0;rw[ld] at this;rw[vk.1 this] at hj;cases hj
    ·rcases Wg hr with hr|rfl
     ·exact hu r hr
     ·rw[XZ (by rw[<-(kX.afg (F:=F) u2).length,hwl,hR];exact h3)];exact hR
    ·rw[ld,BT (by omega)];exact hc
    ·rw[ld,P5 (by omega) (oD hc)];exact q'
    ·obtain ⟨k1,v,k2,k3⟩:=Yw _ u2 p hp;have k1:j*sz+f<=p.1:=k1;have k2:ws[p.1-(j*sz+f)]? =V v:=k2;have:=(bO.1 k2).1;exact ⟨v,by rw[auP (by omega),aC (by omega),aG (by omega)];exact k2,k3⟩
   ·cases h
  ·cases h
 ·cases h
end
section
variable {F F':Hf} {g g':Gb} {Y:Nat->Ow} {c:Nat->cD} {s s':LS} {T:Tf} {H:Hf} {E:Env} {pn:Nat->Bool}
variable {z':Bool}
def oT (K:Nat) (x:AV):AV:=aT (mE K (kG x)) .undef x
def Tb (K:Nat) (x:AV):K∉kG (oT K x):=by
 unfold oT;rw[cE];split
 ·exact λhc=>by cases hc
 ·rename_i hx;exact λhc=>hx ((tD _ _).2 hc)
def JT {x:AV} (q:VA F g v x):VA F g v (oT K x):=by
 unfold oT;rw[cE];split
 ·exact .undef v
 ·exact q
def agE {K:Nat}:∀{xs:bb} {vs:bc},dH F g vs xs->dH F g vs (xs.map (oT K))
 |_,_,.nil=>.nil
 |_,_,.cons h t=>.cons (JT h) (agE t)
def JS (K:Nat):∀(l:bb),K∉lz (l.map (oT K))
 | [],hc=>by cases hc
 |x::l,hc=>(eV.1 (show K∈kG (oT K x)++lz (l.map (oT K)) from hc)).elim (Tb K x) (JS K l)
def Bx.o8 (K:Nat):Bx->Bx
 | .flat e cs=>.flat e (cs.map (oT K))
 | .bY z e s l Q o=>.bY z e s l Q (o.map λp=>(p.1,oT K p.2))
 |b=>b
def LS.o8 (s:LS) (K:Nat):LS:=⟨s.ts.map λp=>(p.1,oT K p.2),s.bs.map λp=>(p.1,p.2.o8 K)⟩
def axD (s:LS) (K:Nat):(s.o8 K).free K:=by
 refine ⟨λt x hx=> ?_,λk b cQ hb=> ?_⟩
 ·obtain ⟨y,_,rfl⟩:=wc.1 ((DX (λ(_:Nat) (x:AV)=>oT K x) t s.ts).symm.trans hx)
  exact Tb K y
 ·obtain ⟨y,_,rfl⟩:=wc.1 ((DX (λ(_:Nat) (b:Bx)=>b.o8 K) k s.bs).symm.trans hb)
  cases y with
  |flat e cs=>exact JS K cs
  |bY z e s l Q o=>
   show K∉lz ((o.map λp=>(p.1,oT K p.2)).map (·.2))
   rw[tS,show ((λp:Nat×AV=>p.2) ∘ λp:Nat×AV=>(p.1,oT K p.2))=oT K ∘ (·.2) from rfl,<-tS]
   exact JS K _
  |_=>exact λhc=>by cases hc
def eT.o8 {b:Bx} {L:Ow} (K:Nat) (q:eT F g k b L):eT F g k (b.o8 K) L:=by
 cases q with
 |flat q=>exact .flat (agE q)
 |nil hb=>exact .nil hb
 |bY hb hz hu hc q ho=>
  refine .bY hb hz hu hc q λp hp=> ?_
  obtain ⟨p0,hp0,rfl⟩:=dM.1 hp;obtain ⟨v,v1,v2⟩:=ho p0 hp0;exact ⟨v,v1,JT v2⟩
 |map hk hv hw=>exact .map hk hv hw
 |iter=>exact .iter
def Rel.o8 (r:Rel F g Y c s T H) (K:Nat):Rel F g Y c (s.o8 K) T H:=r.apa (ft:=λ_=>oT K) (fb:=λ_ b=>b.o8 K) r.fr (λ_=>by unfold oT;rw[cE];split<;>rfl) (λ_ _ _ _=>JT) λ_ _ _ _ q=>q.o8 K
structure Srx where
 DV:List cH
 R:bz
 o:Nat->fk
def abe (s:LS) (sz:Nat) (l:ee) (y:AV) (R:bz) (o:Nat->fk):Prop:=y≠ .undef/\∀{F:Hf} {g:Gb} {Y:Nat->Ow} {c:Nat->cD} {T:Tf} {H:Hf} {v:SV},Rel F g Y c s T H->VA F g v y->
 ∃xs,oK H sz v=V (R.length,xs)/\TR F l xs R []/\(∀r∈R,r.length=sz)/\∀n,∀q∈o n,n<=q.1/\∃v,xs[q.1-n]? =V v/\VA F g v q.2
def aeF {id:Nat} {cp:Cp} (hh:jD (H id) off (n*sz)=V (e,svs)) (hl:off+n*sz<=svs.length):oK H sz (.sl id off n cp)=V (n,(svs.drop off).take (n*sz)):=by
 show Bg H sz (.sl id off n cp)=_;unfold Bg;refine EA (a:=n) rfl (b:=((svs.drop off).take (n*sz))) ?_;show mj H id off (B' n sz)=_;unfold mj;rw[show jD (H id) off (B' n sz)=V (e,svs) from hh];show aT (kQ (wW off (B' n sz)) svs.length) (V ((svs.drop off).take (n*sz))) G=_;rw[show kQ (wW off (B' n sz)) svs.length=M from (bR _ _).2 hl]
def kX.dat:∀{vs xs L},kX F [] vs xs L->dH F lH vs xs
 |_,_,_,.nil=>.nil
 |_,_,_,.cons (v:=v) q t=>.cons (match q with| .d q=>q| .any _=>.undef v) (kX.dat t)
def TR.dat:∀{vs Q L},TR F [] vs Q L->dH F lH vs Q.flatten
 |_,_,_,.nil=>.nil
 |_,_,_,.cons q t=>by rw[pX];exact q.dat.append t.dat
def DG {l:ee} (hv:v= .cq\/v= .sle):∃xs,oK H sz v=V (([]:bz).length,xs)/\TR F l xs [] []/\(∀r∈([]:bz),r.length=sz)/\∀n,∀q∈(λ_=> []:Nat->fk) n,n<=q.1/\∃v,xs[q.1-n]? =V v/\VA F g v q.2:=
 ⟨[],by rcases hv with rfl|rfl<;>rfl,.nil,λ_ hr=>(by cases hr),λ_ _ hq=>by cases hq⟩
def azK {m e:Nat} {R:bz}:abe s sz [] (.sl m e sz n R) R (λ_=> []):=⟨by simp,λr hv=>by
 cases hv with
 |nil=>exact DG (.inl rfl)
 |sle=>exact DG (.inr rfl)
 |sl hn hF hc hm hu hl q=>subst hn;exact ⟨_,aeF (AQ (λi o h=>(r.fr i o h).1) hF) hl,.vw hu q,hu,λ_ _ hq=>by cases hq⟩⟩
def aHm {lo:Nat} {Q R:bz} {o:fk} (hb:lk K s.bs=V (.bY z e sz [] Q o)) (hR:(Q.drop lo).take n=R) (hn:lo+n<=Q.length):abe s sz [] (.ms K sz lo n) R (λ_=> []):=⟨by simp,λ{F g Y c T H v} r hv=>by
 subst hR;have aDq:∀{n},n=0->(Q.drop lo).take n= []:=λe=>by rw[e,yx]
 cases hv with
 |sK=>rw[aDq rfl];exact DG (.inl rfl)
 |yI=>rw[aDq rfl];exact DG (.inr rfl)
 |ms _ _ _ qF=>
  rcases r.bY hb with ⟨_,_,h,_⟩|⟨_,svs,L,_,hH,_,hu,hc,q,_⟩
  ·rw[h] at qF;cases qF
  ·have hl:=oD hc;have hle:lo*sz+n*sz<=Q.length*sz:=by rw[<-fW];exact js _ hn
   have hlen:((Q.drop lo).take n).length=n:=by rw[dz,jx];omega
   have oc:∀r∈(Q.drop lo).take n,r.length=sz:=λr hr=>hu r (nG (oG hr))
   refine ⟨_,by rw[hlen];exact aeF (tj hH) (by omega),.vw oc ?_,oc,λ_ _ hq=>by cases hq⟩
   have:=(q.dat.drop (lo*sz)).take (n*sz);rwa[vZ,l6,fo (by omega),<-agG hu] at this⟩
def azJ {l:ee} {cs:bb} (hb:lk K s.bs=V (.flat e cs)) (hl:cs.length=sz):abe s sz l (.ms K sz 0 1) [wi l cs] (λn=>D8 n l cs):=⟨by simp,λ{F g Y c T H v} r hv=>by
 cases hv with
 |ms _ _ _ qF=>
 obtain ⟨svs,_,q,hH⟩:=r.flat hb;have HK:svs.length=sz:=by rw[q.length,hl]
 refine ⟨svs,?_,by simpa using TR.cons (kX.afg (l:=l) q) .nil,λr hr=> ?_,λn=>Yw n q⟩
 ·rw[aeF (tj hH) (by omega),mK,ph,jz (by omega)];rfl
 ·rw[gL.1 hr,<-(kX.afg (F:=F) (l:=l) q).length,HK]⟩
def aoP (s:LS) (sz:Nat) (l:ee) (y:AV) (A:bz->Prop) (R:bz) (ob:Prop->cH):Z Srx:=
 match y with
 | .lit .cq=>V ⟨[ob (A [])],[],λ_=> []⟩
 | .sl _ _ Be _ Q=>aT (ku Be sz&&l.isEmpty) (V ⟨[ob (A Q)],Q,λ_=> []⟩) G
 | .ms K Be lo n=>
  (match lk K s.bs with
  |some (.bY _ _ sz'' [] Q _)=>aT (ku Be sz&&(ku sz'' sz&&l.isEmpty)) (V ⟨[ob (A R/\(Q.drop lo).take n=R/\lo+n<=Q.length)],R,λ_=> []⟩) G
  |some (.flat _ cs)=>aT (ku Be sz&&(ku cs.length sz&&(ku lo 0&&ku n 1))) (V ⟨[ob (A [wi l cs])],[wi l cs],λn=>D8 n l cs⟩) G
  |_=>G)
 |_=>G
def alM {l:ee} {y:AV} {A:bz->Prop} {R:bz} {ob:Prop->cH} (hJ:∀P,(ob P).need=P) {q:Srx} (h:aoP s sz l y A R ob=V q) (hh:jl q.DV):A q.R/\abe s sz l y q.R q.o:=by
 unfold aoP at h;split at h
 ·cases h;have h1:=hh.1;rw[hJ] at h1;exact ⟨h1,by simp,λr hv=>by cases hv;exact DG (.inl rfl)⟩
 ·obtain ⟨h1,h⟩:=ba h;cases h;rw[bG] at h1;have h2:=hh.1;rw[hJ] at h2;obtain rfl:=(beq_iff _ _).1 h1.1;obtain rfl:l= []:=by simpa using h1.2
  exact ⟨h2,azK⟩
 ·split at h
  ·rename_i hb;obtain ⟨h1,h⟩:=ba h;cases h;simp only[bG] at h1;have h2:=hh.1;rw[hJ] at h2;obtain rfl:=(beq_iff _ _).1 h1.1;obtain rfl:=(beq_iff _ _).1 h1.2.1;obtain rfl:l= []:=by simpa using h1.2.2
   exact ⟨h2.1,aHm hb h2.2.1 h2.2.2⟩
  ·rename_i hb;obtain ⟨h1,h⟩:=ba h;cases h;simp only[bG] at h1;have h2:=hh.1;rw[hJ] at h2;obtain rfl:=(beq_iff _ _).1 h1.1;obtain rfl:=(beq_iff _ _).1 h1.2.2.1;obtain rfl:=(beq_iff _ _).1 h1.2.2.2;exact ⟨h2,azJ hb ((beq_iff _ _).1 h1.2.1)⟩
  ·cases h
 ·cases h
structure Zc (w:Bool) (Q:bz) (n:Nat) (Q':bz) (n':Nat) (R:bz):Prop where
 hw:w=M->n=Q.length
 hn:n<=Q.length
 n6:n<=1000000
 r6:R.length<=1000000
 eq:Q.take n++R=Q'
 len:Q'.length=n'
def ayr {m:Nat} {ie:TI} (hi:E.ty.get t=V i) (hd:po i.desc=V e) (he:E.ty.get e=V ie) (pN:nN ie=M) (hw:oK H ie.size w=V (m,xs)) (hm:m<=1000000):
  pZ E H new t v w=aT (ku m 0) (aT (L6 v) (V (v,[])) G) (si v H new e ie.size m xs):=by
 unfold pZ;rw[gb hi,gb hd];unfold OW;rw[gb he,pN];show az (oK H ie.size w) (λq=>aT (kQ q.1 1000000) (aT (ku q.1 0) (aT (L6 v) (V (v,[])) G) (si v H new e ie.size q.1 q.2)) G)=_
 rw[gb hw];show aT (kQ m 1000000) _ G=_;rw[(bR _ _).2 hm]
def aru (r:Rel F g Y c s T H) (hn:H new=G) {l:ee} {Q R:bz} {o:fk} {oR:Nat->fk} {ie:TI} (hi:E.ty.get t=V i) (hd:po i.desc=V e) (he:E.ty.get e=V ie) (pN:nN ie=M) (hv:VA F g v (.ms K ie.size 0 n)) (hw:oK H ie.size w=V (R.length,xs)) (hx:TR F l xs R []) (hu:∀x∈R,x.length=ie.size) (hoR:∀n,∀q∈oR n,n<=q.1/\∃v,xs[q.1-n]? =V v/\VA F g v q.2) (hko:K∉lz ((oR (n*ie.size)).map (·.2))) (hq:n<=Q.length) (zr:n<=1000000) (hR:R.length<=1000000) (hz':z'=M->z=M/\n=Q.length) (hb:lk K s.bs=V (.bY z e ie.size l Q o)):
  ∃v' us gk L',pZ E H new t v w=V (v',us)/\VA F (ly g K gk) v' (.ms K ie.size 0 (Q.take n++R).length)/\eT F (ly g K gk) K (.bY z' e ie.size l (Q.take n++R) (oR (n*ie.size))) L'/\(L'.map (·.1)).Nodup/\(∀p∈L',gY H us p.1=V p.2/\(c p.1=V K\/H p.1=G))/\(∀u∈us,u.1=new\/c u.1=V K)/\(gY H us new=G\/new∈L'.map (·.1)):=by
 have hlen:(Q.take n++R).length=n+R.length:=by rw[gy,dz];omega
 have di:xs.length=R.length*ie.size:=hx.length hu;have same:ly g K (g K)=g:=funext λk=>by unfold ly;split<;>simp_all
 have HK:L6 v=M:=by cases hv<;>rfl
 obtain ⟨_,nd,own⟩:=r.bx K _ hb;rw[ayr hi hd he pN hw hR];have hho:∀{gk:GK} {old tl:bc},old.length=n*ie.size->HoA F (ly g K gk) (old++xs++tl) (oR (n*ie.size)):=λ{gk old tl} ho p hp=>by
  obtain ⟨h1,v,v1,v2⟩:=hoR _ p hp;have:=(bO.1 v1).1;refine ⟨v,?_,v2.same (.refl F) λk hk=>show ly g K gk k=g k from aC λ(ek:k=K)=>hko (ek ▸ CE (dM.2 ⟨p,hp,rfl⟩) k hk)⟩
  rw[pd (by rw[gy];omega),nF (by omega),ho]
  exact v1
 by_cases hR0:R.length=0
 ·obtain rfl:R= []:=vk.1 hR0;have gw:oR (n*ie.size)= []:=akY.2 λp hp=>by
   obtain ⟨_,v,v1,_⟩:=hoR _ p hp;rw[vk.1 (show xs.length=0 by rw[di];exact mK _)] at v1
   cases v1
  rw[r4,gw,dz,fo hq];have go:∀L',eT F g K (.bY z' e ie.size l (Q.take n) []) L'->L'.Sublist (Y K)->∃v' us gk L',aT (ku ([]:bz).length 0) (aT (L6 v) (V (v,[])) G) (si v H new e ie.size ([]:bz).length xs)=V (v',us)/\VA F (ly g K gk) v' (.ms K ie.size 0 n)/\eT F (ly g K gk) K (.bY z' e ie.size l (Q.take n) []) L'/\(L'.map (·.1)).Nodup/\(∀p∈L',gY H us p.1=V p.2/\(c p.1=V K\/H p.1=G))/\(∀u∈us,u.1=new\/c u.1=V K)/\(gY H us new=G\/new∈L'.map (·.1)):=λL' np hs=>
   ⟨v,[],g K,L',by rw[HK];rfl,by rw[same];exact hv,by rw[same];exact np,(hs.map _).nodup nd,λp hp=>⟨(own p (hs.subset hp)).1,.inl (own p (hs.subset hp)).2⟩,λ_ hu=>(by cases hu),.inl hn⟩
  rcases r.bY hb with ⟨rfl,_,hbf,hφ⟩|⟨tf,svs,L,hφ,hH,hz,ud,hc,q,_⟩
  ·exact go [] (by simpa using .nil hbf) (NV _)
  ·obtain ⟨L',hs,q'⟩:=q.take n ud;have hle:=js ie.size hq;rw[l6,fo hle] at q';refine go _ (.bY tf (λe0=> ?_) (λr hr=>ud r (oG hr)) ?_ ?_ λp hp=>by cases hp) (hφ ▸ hs.cons_cons _)
   ·rw[(hz' e0).2,uo];exact hz (hz' e0).1
   ·rw[dz,fo hq];cases hκ:(g K).c with
    |k m=>rw[hκ] at hc;exact ⟨kY hq hc.1,hc.2⟩
    |u e'=>rw[hκ] at hc;exact ⟨hc.1,kY hle hc.2⟩
   ·rw[dz,fo hq];exact q'
 rw[show ku R.length 0=I from by
  cases hx:ku R.length 0 with
  |false=>rfl
  |true=>exact absurd ((beq_iff _ _).1 hx) hR0]
 show ∃v' us gk L',si v H new e ie.size R.length xs=V (v',us)/\_;have cQ:Q.take n++R≠ []:=λhc=>hR0 (by rw[(List.append_eq_nil_iff.1 hc).2];rfl)
 have fresh:∀{us:gO} {old:bc} {L0:Ow},TR F l old (Q.take n) L0->old.length=n*ie.size->(∀r∈Q.take n,r.length=ie.size)->L0.Sublist (Y K)->gY H us new=V (.cells e (old++xs))->(∀p∈L0,gY H us p.1=H p.1)->(∀u∈us,u.1=new\/c u.1=V K)->si v H new e ie.size R.length xs=V (.sl new 0 (wW n R.length) (.u e),us)->
   ∃v' us gk L',si v H new e ie.size R.length xs=V (v',us)/\VA F (ly g K gk) v' (.ms K ie.size 0 (Q.take n++R).length)/\eT F (ly g K gk) K (.bY z' e ie.size l (Q.take n++R) (oR (n*ie.size))) L'/\(L'.map (·.1)).Nodup/\(∀p∈L',gY H us p.1=V p.2/\(c p.1=V K\/H p.1=G))/\(∀u∈us,u.1=new\/c u.1=V K)/\(gY H us new=G\/new∈L'.map (·.1)):=λ{us old L0} q ho ud hs qL hL oc Ec=>by
  have eg:ly g K ⟨new,.u e,M⟩ K=⟨new,.u e,M⟩:=aG rfl;have hl:(old++xs).length=(Q.take n++R).length*ie.size:=by rw[gy,ho,di,hlen,fW]
  refine ⟨_,us,⟨new,.u e,M⟩,(new,.cells e (old++xs))::L0,Ec,by rw[hlen];exact sK eg,?_,?_,λp hp=> ?_,oc,.inr (by simp)⟩
  ·have:=eT.bY (F:=F) (g:=ly g K ⟨new,.u e,M⟩) (K:=K) (z:=z') (e:=e) (s:=ie.size) (l:=l) (Q:=Q.take n++R) (o:=oR (n*ie.size)) (svs:=old++xs) (L:=L0) (by rw[eg]) (λ_=>cQ) (λx hx=>(eV.1 hx).elim (ud x) (hu x)) (by rw[eg];exact ⟨rfl,by rw[hl];exact de _⟩) (by rw[<-hl,uo];simpa using q.append hx) (by simpa using hho (tl:= []) ho)
   rwa[eg] at this
  ·rw[jX,pj];refine ⟨λhm=> ?_,(hs.map _).nodup nd⟩
   obtain ⟨p,hp,e0⟩:=dM.1 hm;have:=(own p (hs.subset hp)).1;rw[show p.1=new from e0,hn] at this;cases this
  ·rcases da.1 hp with rfl|hp
   ·exact ⟨qL,.inr hn⟩
   ·exact ⟨(hL p hp).trans (own p (hs.subset hp)).1,.inl (own p (hs.subset hp)).2⟩
 have one:∀{x:SO} {i:Nat},gY H [(new,V x)] i=if i=new then V x else H i:=λ{x i}=>rfl
 rcases r.bY hb with ⟨rfl,_,hbf,hφ⟩|⟨tf,svs,L,hφ,hH,hz,ud,hc,q,_⟩
 ·have wY:v= .cq:=by
   cases hv with
   |sK=>rfl
   |yI _ _ h0=>cases h0
   |ms _ _ _ qF=>rw[hbf] at qF;cases qF
  subst wY;obtain rfl:n=0:=G3.1 hq;exact fresh (us:= [(new,V (.cells e xs))]) (old:= []) (L0:= []) (by simpa using .nil) (by simp) (λr hr=>by simp at hr) (NV _) (by rw[one,aG rfl];rfl) (λp hp=>by cases hp) (λu hu=>.inl (by rw[gL.1 hu])) (by rw[show wW 0 R.length=R.length from cg _];rfl)
 ·have yi:v= .sl (g K).n 0 n (g K).c:=by
   cases hv with
   |sK s qF=>rw[tf] at qF;cases qF
   |yI _ _ h0=>cases h0
   |ms=>rw[mK];cases (g K).c<;>rfl
  have hl:=oD hc;have hle:=js ie.size hq;have ho:(svs.take (n*ie.size)).length=n*ie.size:=by rw[dz];omega
  obtain ⟨L0,hs,q'⟩:=q.take n ud;rw[l6,fo hle] at q';have hut:∀r∈Q.take n,r.length=ie.size:=λr hr=>ud r (oG hr)
  have hsK:L0.Sublist (Y K):=hφ ▸ hs.trans (List.sublist_cons_self _ _);rw[hφ] at nd own;have aqf:∀p∈L0,p.1≠(g K).n/\p.1≠new:=λp hp=>⟨λe0=>(pj.1 nd).1 (e0 ▸ dM.2 ⟨p,hs.subset hp,rfl⟩),λe0=>by
   have:=(own p (dQ _ (hs.subset hp))).1;rw[e0,hn] at this;cases this⟩
  have hcK:=(own _ j7).2;have hold:mj H (g K).n 0 (B' n ie.size)=V (svs.take (n*ie.size)):=by
   unfold mj;rw[hH];show aT (kQ (wW 0 (B' n ie.size)) svs.length) (V ((svs.drop 0).take (n*ie.size))) G=_;rw[(bR _ _).2 (show wW 0 (B' n ie.size)<=svs.length by rw[show wW 0 (B' n ie.size)=n*ie.size from cg _];omega)]
   rfl
  have hto:si v H new e ie.size R.length xs=abb new e ie.size (g K).n 0 n (g K).c R.length xs (e,svs) (svs.take (n*ie.size)):=by
   rw[yi];show OX H new e ie.size R.length xs (g K).n 0 n (g K).c=_;unfold OX;rw[(bR _ _).2 zr];show aT (aqp n R.length (g K).c) _ _=_;rw[cE];split
   ·rename_i Ml;rw[gb hold];cases hκ:(g K).c with
    |u e'=>rw[hκ] at Ml;cases Ml
    |k m=>
     rw[hκ] at Ml;have Ml:m<n+R.length:=(bR _ _).1 Ml;show _=aT (kQ (wW n R.length) m) _ _;rw[show kQ (wW n R.length) m=I from by
      cases hx:kQ (wW n R.length) m with
      |false=>rfl
      |true=>exact absurd ((bR _ _).1 hx) (by show ¬n+R.length<=m;omega)]
   ·exact EA (by rw[hH];rfl) hold
  cases hκ:(g K).c with
  |u e'=>
   rw[hκ] at hc hto;obtain ⟨rfl,HN⟩:=hc;refine fresh (us:= [((g K).n,G),(new,V (.cells e' (svs.take (n*ie.size)++xs)))]) q' ho hut hsK ?_ (λp hp=> ?_) (λu hu=> ?_) ?_
   ·show jn (jn H _) _ new=_;exact aG rfl
   ·show jn (jn H _) _ p.1=_;exact (aC (aqf p hp).2).trans (aC (aqf p hp).1)
   ·rcases da.1 hu with rfl|hu
    ·exact .inr hcK
    ·exact .inl (by rw[gL.1 hu])
   ·rw[hto];show aT (kQ (wW 0 (B' n ie.size)) svs.length&&ku e' e') _ G=_;rw[(bR _ _).2 (show wW 0 (B' n ie.size)<=svs.length by rw[show wW 0 (B' n ie.size)=n*ie.size from cg _];omega),(beq_iff e' e').2 rfl]
    rfl
  |k m=>
   rw[hκ] at hc hto;obtain ⟨sR,Co⟩:=hc;have e1:abb new e ie.size (g K).n 0 n (.k m) R.length xs (e,svs) (svs.take (n*ie.size))=aT (kQ (wW n R.length) m) (aT (kQ (wW 0 (B' (wW n R.length) ie.size)) svs.length) (V (.sl (g K).n 0 (wW n R.length) (.k m),[((g K).n,V (.cells e (eB svs (wW 0 (B' n ie.size)) xs)))])) G) (CD new e (wW n R.length) (svs.take (n*ie.size)++xs) []):=rfl;rw[e1] at hto;cases nv:kQ (wW n R.length) m with
   |false=>
    refine fresh (us:= [(new,V (.cells e (svs.take (n*ie.size)++xs)))]) q' ho hut hsK (by rw[one,aG rfl]) (λp hp=>by rw[one,aC (aqf p hp).2]) (λu hu=>.inl (by rw[gL.1 hu])) (by rw[hto,nv];rfl)
   |true=>
    have hm:n+R.length<=m:=(bR _ _).1 nv;have aEC:(n+R.length)*ie.size<=svs.length:=by rw[Co];exact js _ hm
    have hz0:wW 0 (B' n ie.size)=n*ie.size:=cg _;have hl3:(svs.take (n*ie.size)++xs).length=(Q.take n++R).length*ie.size:=by rw[gy,ho,di,hlen,fW]
    rw[nv,(bR _ _).2 (show wW 0 (B' (wW n R.length) ie.size)<=svs.length by rw[show wW 0 (B' (wW n R.length) ie.size)=(n+R.length)*ie.size from cg _];exact aEC),hz0] at hto
    refine ⟨_,_,g K,((g K).n,.cells e (eB svs (n*ie.size) xs))::L0,hto,?_,?_,?_,λp hp=> ?_,λu hu=>.inr (by rw[gL.1 hu];exact hcK),.inl ?_⟩
    ·rw[same,hlen];have:=VA.ms (F:=F) (g:=g) (K:=K) ie.size 0 (n+R.length) tf;rw[mK,hκ] at this;exact this
    ·have key:=eT.bY (F:=F) (g:=ly g K (g K)) (K:=K) (z:=z') (e:=e) (s:=ie.size) (l:=l) (Q:=Q.take n++R) (o:=oR (n*ie.size)) (svs:=eB svs (n*ie.size) xs) (L:=L0) (by rw[same];exact tf) (λ_=>cQ) (λx hx=>(eV.1 hx).elim (hut x) (hu x)) (by rw[same,hκ,hlen,BT (by rw[di,<-fW];exact aEC)];exact ⟨hm,Co⟩) (by
      rw[<-hl3,show (eB svs (n*ie.size) xs)=svs.take (n*ie.size)++xs++svs.drop (n*ie.size+xs.length) from rfl,Wd];simpa using q'.append hx) (hho ho)
     rwa[same] at key ⊢
    ·exact pj.2 ⟨λhm=>(pj.1 nd).1 ((hs.map _).subset hm),(hs.map _).nodup (pj.1 nd).2⟩
    ·rcases da.1 hp with rfl|hp
     ·exact ⟨aG rfl,.inl hcK⟩
     ·have:=own p (dQ _ (hs.subset hp));exact ⟨(aC (aqf p hp).1).trans this.1,.inl this.2⟩
    ·exact (aC λ(e0:new=(g K).n)=>by rw[e0,hH] at hn;cases hn).trans hn
def aoC (b:Builtin) (op:Op):Z ((Ew×Ew)×pJ×pJ):=
 match op with
 | .call c=>(match c.callee with
  | .builtin b'=>aT (iL (b'=b)) (match c.args.toList,c.argTypes.toList with
   | [a,y],[t1,t2]=>V ((a,y),t1,t2)
   |_,_=>G) G
  |_=>G)
 |_=>G
def Zf {b:Builtin} {op:Op} (h:aoC b op=V q):∃c,op= .call c/\c.callee= .builtin b/\c.args.toList= [q.1.1,q.1.2]/\c.argTypes.toList= [q.2.1,q.2.2]:=by
 unfold aoC at h;split at h
 ·rename_i c;split at h
  ·rename_i b' hc;obtain ⟨h1,h2⟩:=ba h;clear h;have e:b'=b:=by simpa using h1
   split at h2
   ·rename_i ha ht;cases h2;exact ⟨c,rfl,by rw[hc,e],ha,ht⟩
   ·cases h2
  ·cases h
 ·cases h
def aBC (s:LS) (y:AV) (d:cD):Z ((Nat×Nat)×Nat):=
 match y with
 | .ms K sz 0 n=>V ((K,n),sz)
 | .lit .cq=>az d λK=>(match lk K s.bs with
  |some (.bY M _ sz _ [] _)=>V ((K,0),sz)
  |_=>G)
 |_=>G
def aHZ {y:AV} {q:(Nat×Nat)×Nat} (h:aBC s y d=V q):y≠ .undef/\∀{F:Hf} {g:Gb} {Y:Nat->Ow} {c:Nat->cD} {T:Tf} {H:Hf} {v:SV},Rel F g Y c s T H->VA F g v y->VA F g v (.ms q.1.1 q.2 0 q.1.2):=by
 unfold aBC at h;split at h
 ·cases h;exact ⟨by simp,λ_ hv=>hv⟩
 ·obtain ⟨K,_,h⟩:=aq h;split at h
  ·rename_i hb;cases h;refine ⟨by simp,λr hv=> ?_⟩
   cases hv;rcases r.bY hb with ⟨_,_,hbf,_⟩|⟨_,_,_,_,_,hz,_⟩
   ·exact .sK _ hbf
   ·exact absurd rfl (hz rfl)
  ·cases h
 ·cases h
def aBV (E:Env) (pn:Nat->Bool) (s:LS) (d:cD) (op:Op) (w:Bool) (A:bz->Nat->bz->Prop) (fQ:bz->bz->bz) (fn:Nat->Nat) (kj:bz->Bool) (R:bz) (ob:Prop->cH):Z oX:=
 az (aoC .append op) λq=>cC (ON E q.2.1) (E.ty.get q.2.2) λp i2=>az (aBC s (dU s.ts q.1.1) d) λk=>(match lk k.1.1 s.bs with
  |some (.bY z e sz l Q _)=>az (aoP s p.2.size l (dU s.ts q.1.2) (A Q k.1.2) R ob) λsc=>
   aT ((nN p.2&&(Jk i2.desc&&kj sc.R))&&((ku k.2 p.2.size&&(ku sz p.2.size&&ku e p.1))&&(!pn k.1.1 && !mE k.1.1 (lz ((sc.o (B' k.1.2 p.2.size)).map (·.2))))))
    (V ⟨sc.DV,(s.o8 k.1.1).set k.1.1 (.bY (w&&z) e sz l (fQ Q sc.R) (sc.o (B' k.1.2 p.2.size))),.ms k.1.1 sz 0 (fn k.1.2),[k.1.1]⟩) G
  |_=>G)
def ano {op:Op} {w:Bool} {A:bz->Nat->bz->Prop} {fQ:bz->bz->bz} {kj:bz->Bool} {R:bz} {ob:Prop->cH} (hAP:∀Q n R,A Q n R->kj R=M->Zc w Q n (fQ Q R) (fn n) R) (hJ:∀P,(ob P).need=P) {r:oX} (h:aBV E pn s d op w A fQ fn kj R ob=V r):vg E pn op s r:=by
 obtain ⟨⟨⟨a,y⟩,t1,t2⟩,h1,h0⟩:=aq h;clear h;obtain ⟨cl,rfl,sR,Co,hc3⟩:=Zf h1;obtain ⟨p,i2,h2,h3,h⟩:=bU h0;clear h0;obtain ⟨⟨⟨K,n⟩,sz0⟩,h4,h⟩:=aq h;dsimp only at h;split at h
 ·rename_i z e sz l Q o hb;obtain ⟨sc,h5,h⟩:=aq h;obtain ⟨h6,h⟩:=ba h;cases h;simp only[bG] at h6;obtain ⟨⟨k1,k2,k8⟩,⟨k3,k4,k5⟩,k6,k7⟩:=h6;intro hh;obtain ⟨hA0,hS⟩:=alM hJ h5 hh;have hA:=hAP _ _ _ hA0 k8;obtain ⟨d1,d2⟩:=aHZ h4;obtain rfl:=(beq_iff _ _).1 k3;obtain rfl:=(beq_iff _ _).1 k4;obtain rfl:=(beq_iff _ _).1 k5;obtain ⟨i,hi,he,hie⟩:=yT h2;rw[<-hA.len,<-hA.eq];refine .boxG (λr=>r.o8 K) λ{F g Y c T H new} r hn=> ?_
  obtain ⟨v,v1,v2⟩:=r.val rfl d1;obtain ⟨x,w1,w2⟩:=r.val rfl hS.1;obtain ⟨xs,x1,x2,x3,x4⟩:=hS.2 r w2;obtain ⟨v',us,gk,L',u1,u2,u3,u4,u5,u6,u7⟩:=aru (z':=w&&z) r hn hi he hie k1 (d2 r v2) x1 x2 x3 x4 ((λhm=>Oy (by simpa using k7) K hm rfl)) hA.hn hA.n6 hA.r6 (λhz=>by rw[bG] at hz;exact ⟨hz.2,hA.hw hz.1⟩) hb
  refine ⟨v',us,gk,L',?_,u2,u3,u4,u5,u6,.inr ⟨by simpa using k6,axD s K⟩,u7⟩
  show tY E T H new cl=_;unfold tY;rw[sR];show az (gA T cl.args.toList) (λaa=>pM E H new .append aa cl.argTypes.toList)=_
  rw[Co,hc3];have e1:gA T [a,y]=V [v,x]:=by
   show cC (dB T a) (cC (dB T y) (V []) λv l=>V (v::l)) (λv l=>V (v::l))=_
   rw[v1,w1];rfl
  rw[e1];show az (E.ty.get t2) (λi=>aT (Jk i.desc) (pZ E H new t1 v x) G)=_
  rw[gb h3,k2];exact u1
 ·cases h
def appI (E:Env) (pn:Nat->Bool) (s:LS) (d:cD) (op:Op) (w:Bool) (R Q':bz) (n':Nat) (ob:Prop->cH):Z oX:=aBV E pn s d op w (λQ n R=>Zc w Q n Q' n' R) (λ_ _=>Q') (λ_=>n') (λ_=>M) R ob
def TapP (Q:bz) (n:Nat):Prop:=n=Q.length/\n<=1000000
def tapI (E:Env) (pn:Nat->Bool) (s:LS) (d:cD) (op:Op) (ob:Prop->cH):Z oX:=aBV E pn s d op M (λQ n _=>TapP Q n) (λQ R=>Q++R) LJ (λR=>ku R.length 1) [] ob
def aIv {op:Op} {w:Bool} {R Q':bz} {ob:Prop->cH} (hJ:∀P,(ob P).need=P) {r:oX} (h:appI E pn s d op w R Q' n' ob=V r):vg E pn op s r:=ano (λ_ _ _ h _=>h) hJ h
def aGO {op:Op} {ob:Prop->cH} (hJ:∀P,(ob P).need=P) {r:oX} (h:tapI E pn s d op ob=V r):vg E pn op s r:=ano (λQ n R h hc=>by
 obtain ⟨rfl,h6⟩:=h;have hc:R.length=1:=(beq_iff _ _).1 hc;exact ⟨λ_=>rfl,de _,h6,by omega,by rw[uo],by rw[gy,hc]⟩) hJ h
def aCy (Q Q':bz) (lo n m:Nat) (R:bz):Prop:=lo+n<=Q.length/\1<=n/\m=min R.length n/\Q'=Q.take lo++(R.take m++Q.drop (lo+m))
def cpyI (E:Env) (s:LS) (op:Op) (R Q':bz) (m:Nat) (ob:Prop->cH):Z oX:=
 az (aoC .copy op) λq=>az (ON E q.2.1) λp=>(match dU s.ts q.1.1 with
  | .ms K sz lo n=>(match lk K s.bs with
   |some (.bY z e Be [] Q [])=>az (aoP s p.2.size [] (dU s.ts q.1.2) (aCy Q Q' lo n m) R ob) λsc=>aT (nN p.2&&(ku sz p.2.size&&ku Be p.2.size)) (V ⟨sc.DV,s.set K (.bY z e Be [] Q' []),.int .i64 (m:Int),[K]⟩) G
   |_=>G)
  |_=>G)
def aIg {op:Op} {R Q':bz} {m:Nat} {ob:Prop->cH} (hJ:∀P,(ob P).need=P) {r:oX} (h:cpyI E s op R Q' m ob=V r):vg E pn op s r:=by
 obtain ⟨⟨⟨a,y⟩,t1,t2⟩,h1,h0⟩:=aq h;clear h;obtain ⟨cl,rfl,sR,Co,hc3⟩:=Zf h1;obtain ⟨p,h2,h⟩:=aq h0;clear h0;dsimp only at h;split at h
 ·rename_i K sz lo n ha;split at h
  ·rename_i z e Be Q hb;obtain ⟨sc,h5,h⟩:=aq h;obtain ⟨h6,h⟩:=ba h;cases h;simp only[bG] at h6;obtain ⟨k1,k2,k3⟩:=h6;intro hh;obtain ⟨⟨q1,q2,q3,q4⟩,hS⟩:=alM hJ h5 hh;obtain rfl:=(beq_iff _ _).1 k2;obtain rfl:=(beq_iff _ _).1 k3;obtain ⟨i,hi,he,hie⟩:=yT h2;refine .wr hb λ{F g Y c T H} r=> ?_
   obtain ⟨v,v1,v2⟩:=r.val ha (by simp)
   obtain ⟨x,w1,w2⟩:=r.val rfl hS.1;obtain ⟨xs,x1,x2,x3,_⟩:=hS.2 r w2;rcases r.bY hb with ⟨hQ,_⟩|⟨tf,svs,L,hφ,hH,hz,hu,hc,q,ho⟩
   ·rw[hQ] at q1;simp at q1;omega
   have hv:v= .sl (g K).n (lo*p.2.size) n (zx (g K).c lo):=by
    cases v2 with
    |sK=>omega
    |ms=>rfl
    |yI=>omega
   subst hv;have jr:=oD hc;have hmR:m<=sc.R.length:=by omega
   have hmn:m<=n:=by omega
   have hxl:xs.length=sc.R.length*p.2.size:=x2.length x3;have hms:m*p.2.size<=sc.R.length*p.2.size:=js _ hmR;have hxt:(xs.take (m*p.2.size)).length=m*p.2.size:=by rw[dz];omega
   have Ee:lo*p.2.size+m*p.2.size<=Q.length*p.2.size:=by rw[<-fW];exact js _ (by omega)
   have hQl:Q'.length=Q.length:=by rw[q4];simp;omega
   obtain ⟨A1,B1,eL,p1,p2⟩:=q.cut lo hu;obtain ⟨A2,B2,eL2,_,p4⟩:=p2.cut m λr hr=>hu r (nG hr)
   obtain ⟨A3,B3,eL3,p5,_⟩:=x2.cut m x3;obtain ⟨rfl,rfl⟩:A3= []/\B3= []:=by simpa using eL3.symm
   have q':=p1.append (p5.append p4);refine ⟨.int .i64 (.lit (.ofNat m)),.cells e svs,.cells e (eB svs (lo*p.2.size) (xs.take (m*p.2.size))),L,A1++([]++B2),hφ,λnew=> ?_,.lit _,.bY tf (λhz0 e0=> ?_) (λr hr=> ?_) ?_ ?_ (λp hp=>by cases hp),?_⟩
   ·show tY E T H new cl=_;unfold tY;rw[sR];show az (gA T cl.args.toList) (λaa=>pM E H new .copy aa cl.argTypes.toList)=_
    rw[Co,hc3];have e1:gA T [a,y]=V [.sl (g K).n (lo*p.2.size) n (zx (g K).c lo),x]:=by
     show cC (dB T a) (cC (dB T y) (V []) λv l=>V (v::l)) (λv l=>V (v::l))=_
     rw[v1,w1];rfl
    rw[e1];show AP E H t1 (.sl (g K).n (lo*p.2.size) n (zx (g K).c lo)) x=_;unfold AP;rw[gb hi,gb he];unfold aqR;rw[gb hie,k1];show cC (V n) (oK H p.2.size x) (λnd q=>Et (.sl (g K).n (lo*p.2.size) n (zx (g K).c lo)) H p.2.size (aT (kQ q.1 nd) q.1 nd) q.2)=_
    rw[EA rfl x1];have em:aT (kQ sc.R.length n) sc.R.length n=m:=by
     rw[cE];split
     ·rename_i hle;have:=(bR _ _).1 hle;omega
     ·rename_i hle;have:¬sc.R.length<=n:=λh=>hle ((bR _ _).2 h)
      omega
    show HW H p.2.size (aT (kQ sc.R.length n) sc.R.length n) xs (g K).n (lo*p.2.size)=_;rw[em];unfold HW;rw[hH];show aT (kQ (lo*p.2.size+m*p.2.size) svs.length) _ G=_;rw[(bR _ _).2 (show lo*p.2.size+m*p.2.size<=svs.length by omega)]
    rfl
   ·have:=bF aa9 e0;rw[hQl] at this;exact hz hz0 (vk.1 this)
   ·rw[q4] at hr;rcases eV.1 hr with hr|hr
    ·exact hu r (oG hr)
    ·rcases eV.1 hr with hr|hr
     ·exact x3 r (oG hr)
     ·exact hu r (nG hr)
   ·rw[hQl,BT (by omega)];exact hc
   ·have es:eB (svs.take (Q.length*p.2.size)) (lo*p.2.size) (xs.take (m*p.2.size))=(svs.take (Q.length*p.2.size)).take (lo*p.2.size)++(xs.take (m*p.2.size)++((svs.take (Q.length*p.2.size)).drop (lo*p.2.size)).drop (m*p.2.size)):=by
     unfold eB;rw[j8,sw,hxt];rfl
    rw[hQl,P5 (by omega) jr,es,q4]
    simp only[sw] at q' ⊢;exact q'
   ·rw[eL,eL2];exact List.Sublist.append (.refl _) (NW ..)
  ·cases h
 ·cases h
end
section
variable {F F':Hf} {g g':Gb} {Y:Nat->Ow} {c:Nat->cD} {s s':LS} {T:Tf} {H:Hf} {E:Env} {pn:Nat->Bool}
variable {hi:Z Ew} {c2:cD} {e':pJ} {pos:Nat}
def cvS (m e s:Nat) (x:AV):AV:=
 match x with
 | .lit .cq=>.sl m e s 0 []
 | .sl m' e' s' n Q=>.sl (aT (ku m 2||(ku m 0&&ku m' 1)) m m') e' s' n Q
 |x=>x
def aKh {m e:Nat} {x:AV} (q:VA F g v x):VA F g v (cvS m e sz x):=by
 unfold cvS;split
 ·cases q;exact .nil _ _ _
 ·rw[cE];split
  ·rename_i h;have hm:m=2\/m=0:=by
    rw[sx,bG] at h;exact h.imp (beq_iff _ _).1 λh=>(beq_iff _ _).1 h.1
   cases q with
   |nil=>exact .nil _ _ _
   |sle=>
    rcases hm with rfl|rfl
    ·exact .sle _ _
    ·cases h
   |sl hn hF hc _ hu hl q=>exact .sl hn hF hc (λe=>by omega) hu hl q
  ·exact q
 ·exact q
def cvG (k:bb->bb) (x:AV):AV:=
 match x with
 | .agg cs=>.agg (k cs)
 | .lit (.agg vs)=>.agg (k (yK vs))
 | .dr cs=>.dr (k cs)
 |x=>x
def axR {k:bb->bb} (hk:∀{vs xs},dH F g vs xs->dH F g vs (k xs)) {x:AV} (q:VA F g v x):VA F g v (cvG k x):=by
 unfold cvG;split
 ·cases q with|agg h=>exact .agg (hk h)
 ·cases q;exact .agg (hk uF)
 ·cases q with|dr h=>exact .dr (hk h)
 ·exact q
mutual
def cv:AV->AV->AV
 | .sl m e s _ _,x=>cvS m e s x
 | .agg ws,x=>cvG (λxs=>MJ ws xs) x
 | .dr ws,x=>cvG (λxs=>MJ ws xs) x
 | .undef,_=>.undef
 |_,x=>x
def MJ:bb->bb->bb
 |w::ws,x::xs=>cv w x::MJ ws xs
 |_,xs=>xs
end
mutual
def FD:∀{w x:AV} {v:SV},VA F g v x->VA F g v (cv w x)
 | .sl m e s _ _,_,_,q=>aKh q
 | .agg ws,x,v,q=>axR (λq=>HV q) q
 | .dr ws,x,v,q=>axR (λq=>HV q) q
 | .undef,_,v,_=>.undef v
 | .lit _,_,_,q| .kh _,_,_,q| .fn _ _ _,_,_,q| .el _ _ _ _,_,_,q| .ms _ _ _ _,_,_,q| .mp _,_,_,q| .it _,_,_,q=>q
def HV:∀{ws xs:bb} {vs:bc},dH F g vs xs->dH F g vs (MJ ws xs)
 | [],_,_,q=>q
 |_::_,_,_,.nil=>.nil
 |_::_,_,_,.cons h t=>.cons (FD h) (HV t)
end
def cvO:fk->fk->fk
 |w::ws,p::o=>(p.1,cv w.2 p.2)::cvO ws o
 |_,o=>o
def axQ {svs:bc}:∀{w o:fk},HoA F g svs o->HoA F g svs (cvO w o)
 | [],_,h=>h
 |_::_,[],h=>h
 |w::ws,p::o,h=>λq hq=>by
  rcases da.1 (show q∈(p.1,cv w.2 p.2)::cvO ws o from hq) with rfl|hq
  ·obtain ⟨v,v1,v2⟩:=h p (by simp)
   exact ⟨v,v1,FD v2⟩
  ·exact axQ (λp hp=>h p (dQ _ hp)) q hq
def cvB (w b:Bx):Bx:=
 match w,b with
 | .flat _ ws,.flat e cs=>.flat e (MJ ws cs)
 | .bY z' _ _ _ _ o',.bY z e s l Q o=>.bY (z&&z') e s l Q (cvO o' o)
 |_,b=>b
def aKi {w b:Bx} {L:Ow} (q:eT F g k b L):eT F g k (cvB w b) L:=by
 unfold cvB;split
 ·cases q with|flat q=>exact .flat (HV q)
 ·rename_i o' z e s l Q o;cases q with
  |nil hb=>cases o'<;>exact .nil hb
  |bY hb hz hu hc q ho=>exact .bY hb (λh=>hz (jK.1 h).1) hu hc q (axQ ho)
 ·exact q
def aBS (ts:fk):Z Ew->Z (Z Int)
 |none=>V G
 |some x=>(match dU ts x with| .lit (.int _ (.lit n))=>V (V n)|_=>G)
def Tw (r:Rel F g Y c s T H) {o:Z Ew} {b:Z Int} {d:Nat} (hb:aBS s.ts o=V b) (hn:b.getD d=(n:Int)):∃c,mc T o=V c/\c.getD d=n/\(d=0\/d=n->n=0->oF c=M):=by
 cases o with
 |none=>
  cases hb;exact ⟨G,rfl,V3 hn,λ_ _=>rfl⟩
 |some x=>
  have hb:(match dU s.ts x with| .lit (.int _ (.lit n))=>V (V n)|_=>G)=V b:=hb
  split at hb
  ·rename_i k m hv;cases hb;obtain rfl:m=(n:Int):=hn;obtain ⟨v,v1,v2⟩:=r.val hv (by simp)
   cases v2;exact ⟨V n,by show az (dB T x) (λv=>az (oP v) λn=>V (V n))=_;rw[v1];rfl,rfl,λ_ h=>(beq_iff _ _).2 h⟩
  ·cases hb
def zV {ie:TI} (uX:E.ty.get t=V i) (hd:po i.desc=V e) (he:E.ty.get e=V ie) (hv:dB T a=V v) (h1:mc T lo=V c1) (h2:mc T hi=V c2):
  vu E (.slice t a lo hi G) T H new=same (LA v E e c1 c2 G):=by
 show one T a (λv=>vd (mc T lo) (mc T hi) (V G) λl u m=>same (Hm E t v l u m))=_
 unfold one;rw[hv,h1,h2];show same (Hm E t v c1 c2 G)=_;unfold Hm;rw[uX];show same (auS i.desc E v c1 c2 G)=_;rw[uB hd];show same (az (E.ty.get e) λ_=>LA v E e c1 c2 G)=_
 rw[he];rfl
def aeH {ie:TI} {id u:Nat} {cp:Cp} (hie:E.ty.get e=V ie) (d1:c1.getD 0=l) (d2:c2.getD n=u) (hlu:l<=u) (hu:u<=n) (hc:aiI e n cp):LA (.sl id off n cp) E e c1 c2 G=V (B9 id off l u ie.size cp):=by
 show zW E e id off n cp c1 c2 G=_;unfold zW;rw[gb hie,d1,d2];have e1:(acU cp e&&(kQ l u&&(kQ u (reach cp n)&&apx G u (reach cp n))))=M:=by
  rw[(bR _ _).2 hlu];cases cp with
  |k m=>rw[show kQ u (reach (.k m) n)=M from (bR _ _).2 (kY hu hc)];rfl
  |u e'=>rw[show kQ u (reach (.u e') n)=M from (bR _ _).2 hu,show acU (.u e') e=M from (beq_iff _ _).2 hc];rfl
 rw[e1];rfl
def aiH (lo hi:Int) (n l u:Nat):Prop:=lo=(l:Int)/\hi=(u:Int)/\l<=u/\u<=n
def CutR (Q:bz) (lo hi:Int) (R:bz) (n:Nat):Prop:=∃l u,aiH lo hi Q.length l u/\(Q.drop l).take (u-l)=R/\R.length=n
def agT (m:Nat) (lo:Z Ew):Nat:= @Option.rec _ (λ_=>Nat) (aT (ku m 2) 2 0) (λ_=>2) lo
def axT {m:Nat} (h:agT m lo=1):False:=by
 unfold agT at h;cases lo with
 |none=>have h:aT (ku m 2) 2 0=1:=h;rw[cE] at h;split at h<;>cases h
 |some=>cases h
def azE (c:Cp) (a b:Nat):zx (zx c a) b=zx c (a+b):=by
 cases c with
 |k m=>exact bF Cp.k (Nat.sub_sub m a b)
 |u e=>rfl
def aBK {id u s':Nat} {m:Nat} {cp:Cp} {Q:bz} (hn:Q.length=n) (hF:jD (F id) off (n*s')=V (e',svs)) (hu:∀r∈Q,r.length=s') (hl:off+n*s'<=svs.length) (hq:dH F lH ((svs.drop off).take (n*s')) Q.flatten) (h1:l<=u) (h2:u<=n) (hc:aiI e n cp) (h0:lo=G->l=0):VA F g (B9 id off l u s' cp) (.sl (agT m lo) e s' (u-l) ((Q.drop l).take (u-l))):=by
 subst hn;have hlen:((Q.drop l).take (u-l)).length=u-l:=by rw[dz,jx];omega
 have oc:∀r∈(Q.drop l).take (u-l),r.length=s':=λr hr=>hu r (nG (oG hr))
 have hle:l*s'+(u-l)*s'<=Q.length*s':=by rw[<-fW];exact js _ (by omega)
 have hq2:dH F lH ((svs.drop (off+l*s')).take ((u-l)*s')) ((Q.drop l).take (u-l)).flatten:=by
  have:=(hq.drop (l*s')).take ((u-l)*s');rwa[vZ,l6,sw,fo (by omega),<-agG hu] at this
 unfold B9;rw[cE,cE];split
 ·rename_i e0;obtain rfl:=(beq_iff _ _).1 e0;rw[mK] at hle hq2;rw[Nat.sub_zero] at*;refine .sl hlen (yY hF (de _) (by omega)) ?_ (λh=>(axT h).elim) oc (by omega) (by simpa using hq2)
  cases cp with
  |k m=>exact kY h2 hc
  |u e'=>exact hc
 ·rename_i e0;split
  ·refine .sl hlen (yY hF (show off<=off+l*s' from NS _ _) (show off+l*s'+(u-l)*s'<=off+Q.length*s' by omega)) ?_ (λh=>(axT h).elim) oc (show off+l*s'+(u-l)*s'<=svs.length by omega) hq2
   cases cp with
   |k m=>exact (show u-l<=m-l from Nat.sub_le_sub_right (kY h2 hc) l)
   |u e'=>exact hc
  ·rename_i dq;obtain rfl:u=l:=by
    have:¬l<u:=λhc=>dq ((bR _ _).2 hc)
    omega
   rw[qX,yx];cases lo with
   |none=>exact absurd ((beq_iff _ _).2 (h0 rfl)) e0
   |some=>exact .sle e s'
def aBL (E:Env) (s:LS) (op:Op) (l u:Nat) (R:bz) (n':Nat) (ob:Prop->cH):Z oX:=
 match op with
 | .slice t a lo hi G=>az (ON E t) λp=>cC (aBS s.ts lo) (aBS s.ts hi) λb1 b2=>(match dU s.ts a with
  | .sl m e sz n Q=>aT (ku e p.1&&ku sz p.2.size) (V ⟨[ob (CutR Q (b1.getD 0) (b2.getD (n:Nat)) R n')],s,.sl (agT m lo) e sz n' R,[]⟩) G
  | .ms K sz lo0 n=>(match lk K s.bs with
   |some (.bY _ e Be _ Q _)=>aT (ku e p.1&&(ku sz p.2.size&&ku Be p.2.size)) (V ⟨[ob (aiH (b1.getD 0) (b2.getD (n:Nat)) n l u/\lo0+n<=Q.length)],s,.ms K sz (wW lo0 l) (Nat.sub u l),[]⟩) G
   |_=>G)
  |_=>G)
 |_=>G
def aId {op:Op} {u:Nat} {R:bz} {ob:Prop->cH} (hJ:∀P,(ob P).need=P) {r:oX} (h:aBL E s op l u R n' ob=V r):vg E pn op s r:=by
 unfold aBL at h;split at h
 ·rename_i t a lo hi;obtain ⟨p,hp,h⟩:=aq h;obtain ⟨b1,b2,h1,h2,h⟩:=bU h;obtain ⟨i,uX,he,hie⟩:=yT hp;split at h
  ·rename_i m e sz n Q ha;obtain ⟨h3,h⟩:=ba h;cases h;rw[bG] at h3;obtain rfl:=(beq_iff _ _).1 h3.1;obtain rfl:=(beq_iff _ _).1 h3.2;intro hh;have hc:=hh.1;rw[hJ] at hc;obtain ⟨l,u,⟨c1,c2,c3,c4⟩,rfl,rfl⟩:=hc;refine .val λ{F g Y c T H} r=> ?_
   obtain ⟨v,v1,v2⟩:=r.val ha (by simp)
   have hn:Q.length=n:=by cases v2<;>first|rfl|assumption
   rw[hn] at c4;have hlen:((Q.drop l).take (u-l)).length=u-l:=by rw[dz,jx];omega
   obtain ⟨d1,f1,f2,f3⟩:=Tw (d:=0) r h1 c1;obtain ⟨d2,k1,k2,k3⟩:=Tw (d:=n) r h2 c2;have h0:lo=G->l=0:=λe=>by subst e;cases h1;exact (V3 c1).symm
   rw[hlen];generalize hm:agT m lo=m' at*;cases v2 with
   |nil=>
    have hu0:u=0:=G3.1 c4;have zt:l=0:=by omega
    subst hu0;subst zt;refine ⟨.cq,λnew=> ?_,.nil _ _ _⟩
    rw[zV uX he hie v1 f1 k1];show same (aT (oF d1&&(oF d2&&M)) (V SV.cq) G)=_;rw[f3 (.inl rfl) rfl,k3 (.inl rfl) rfl];rfl
   |sle=>
    have hu0:u=0:=G3.1 c4;have zt:l=0:=by omega
    subst hu0;subst zt;refine ⟨.sle,λnew=> ?_,?_⟩
    ·rw[zV uX he hie v1 f1 k1];show same (aT (oF d1&&(oF d2&&M)) (V SV.sle) G)=_;rw[f3 (.inl rfl) rfl,k3 (.inl rfl) rfl];rfl
    ·rw[<-hm];cases lo<;>exact .sle _ _
   |sl _ hF hct _ hu hl q=>
    refine ⟨_,λnew=> ?_,by rw[<-hm];exact aBK hn hF hu hl q c3 c4 hct h0⟩
    rw[zV uX he hie v1 f1 k1,aeH hie f2 k2 c3 c4 hct];rfl
  ·rename_i K sz lo0 n ha;split at h
   ·rename_i z e Be l' Q o hb;obtain ⟨h3,h⟩:=ba h;cases h;simp only[bG] at h3;obtain rfl:=(beq_iff _ _).1 h3.1;obtain rfl:=(beq_iff _ _).1 h3.2.1;obtain rfl:=(beq_iff _ _).1 h3.2.2;intro hh;have hc:=hh.1;rw[hJ] at hc;obtain ⟨⟨c1,c2,c3,c4⟩,hn⟩:=hc;refine .val λ{F g Y c T H} r=> ?_
    obtain ⟨v,v1,v2⟩:=r.val ha (by simp)
    obtain ⟨d1,f1,f2,f3⟩:=Tw (d:=0) r h1 c1;obtain ⟨d2,k1,k2,k3⟩:=Tw (d:=n) r h2 c2;show ∃v,(∀new,_)/\VA F g v (.ms K p.2.size (lo0+l) (u-l));cases v2 with
    |sK _ qF=>
     have hu0:u=0:=G3.1 c4;have zt:l=0:=by omega
     subst hu0;subst zt;refine ⟨.cq,λnew=> ?_,.sK _ qF⟩
     rw[zV uX he hie v1 f1 k1];show same (aT (oF d1&&(oF d2&&M)) (V SV.cq) G)=_;rw[f3 (.inl rfl) rfl,k3 (.inl rfl) rfl];rfl
    |yI _ _ h0=>
     have hu0:u=0:=G3.1 c4;have zt:l=0:=by omega
     subst hu0;subst zt;refine ⟨.sle,λnew=> ?_,.yI _ _ h0⟩
     rw[zV uX he hie v1 f1 k1];show same (aT (oF d1&&(oF d2&&M)) (V SV.sle) G)=_;rw[f3 (.inl rfl) rfl,k3 (.inl rfl) rfl];rfl
    |ms _ _ _ qF=>
     rcases r.bY hb with ⟨_,_,h,_⟩|⟨_,svs,L,_,hH,_,hu,jr,_,_⟩
     ·rw[h] at qF;cases qF
     have hct:aiI p.1 n (zx (g K).c lo0):=by
      cases hκ:(g K).c with
      |k m=>rw[hκ] at jr;have:=jr.1;exact (show n<=m-lo0 by omega)
      |u e'=>rw[hκ] at jr;exact jr.1
     refine ⟨_,λnew=>by rw[zV uX he hie v1 f1 k1,aeH hie f2 k2 c3 c4 hct];rfl,?_⟩
     unfold B9;rw[cE,cE];split
     ·rename_i e0;obtain rfl:=(beq_iff _ _).1 e0;exact .ms _ lo0 u qF
     ·rename_i e0;have e0:l≠0:=λh=>e0 ((beq_iff _ _).2 h)
      split
      ·rw[azE,show wW (lo0*p.2.size) (B' l p.2.size)=(lo0+l)*p.2.size from (fW _ _ _).symm];exact .ms _ (lo0+l) (u-l) qF
      ·rename_i dq;obtain rfl:u=l:=by
        have:¬l<u:=λhc=>dq ((bR _ _).2 hc)
        omega
       rw[qX];exact .yI _ _ (by omega)
   ·cases h
  ·cases h
 ·cases h
def OH (K:Nat):fk->Bool
 | []=>M
 |p::l=> !mE K (kG p.2)&&OH K l
def S8 (K:Nat):cT->Bool
 | []=>M
 |p::l=>(ku p.1 K|| !mE K p.2.keys)&&S8 K l
def Jw {l:bJ} (h:(!mE K l)=M):K∉l:=λhm=>Oy (by simpa using h) K hm rfl
def Q4 {K:Nat}:∀{ts:fk},OH K ts=M->∀t x,lk t ts=V x->K∉kG x
 |(k,y)::l,hf,t,x,hx=>by
  have hf:=jK.1 (show (!mE K (kG y)&&OH K l)=M from hf);rw[dy] at hx;split at hx
  ·cases hx;exact Jw hf.1
  ·exact Q4 hf.2 t x hx
def agD {K:Nat}:∀{bs:cT},S8 K bs=M->∀k b,k≠K->lk k bs=V b->K∉b.keys
 |(k',b')::l,hf,k,b,cQ,hx=>by
  have hf:=jK.1 (show ((ku k' K|| !mE K b'.keys)&&S8 K l)=M from hf);rw[dy] at hx;split at hx
  ·rename_i e;cases hx;rcases (sx _ _).mp hf.1 with h|h
   ·exact absurd (e.trans ((beq_iff _ _).1 h)) cQ
   ·exact Jw h
  ·exact agD hf.2 k b cQ hx
def JR (s:LS) (K:Nat):Bool:=OH K s.ts&&S8 K s.bs
def Am (hf:JR s K=M):s.free K:=
 have hf:=jK.1 (show (OH K s.ts&&S8 K s.bs)=M from hf)
 ⟨Q4 hf.1,agD hf.2⟩
def MkP (n1 n2:Int) (z:bb) (Q:bz) (l:Nat):Prop:=∃m:Nat,n1=(l:Int)/\n2=(m:Int)/\l<=m/\m<=1000000/\V' l z=Q
def tabN {id s:Nat} {cp:Cp} {l:ee} {Q:bz} (h:g K=⟨id,cp,M⟩) (hu:∀r∈Q,r.length=s) (hc:zf e s Q.length svs.length cp) (q:TR F l (svs.take (Q.length*s)) Q []):eT F g K (.bY I e s l Q []) [(id,.cells e svs)]:=by
 have:=eT.bY (F:=F) (g:=g) (K:=K) (z:=I) (e:=e) (by rw[h]) (λh=>by cases h) hu (by rw[h];exact hc) q (o:= []) (λp hp=>by cases hp)
 rwa[h] at this
def mkC (sh:Sh) (w:AV) (v:SV):AV:=
 match sh with
 | .d=>cv w (.lit v)
 | .o b _=>(match v,w with
  | .cq,.sl _ e s _ _=>yE b e s 0 []
  |_,_=>.undef)
def mkT:ee->bb->bc->bb
 |_,_,[]=> []
 |sh,ws,v::vs=>mkC (sh.headD .d) (ws.headD .cq) v::mkT sh.tail ws.tail vs
def aJT {F:Hf} {sh:Sh} {w:AV}:TC F sh v (mkC sh w v) []:=by
 cases sh with
 |d=>exact .d (FD (.lit v))
 |o b l=>
  show TC F (.o b l) v (match v,w with| .cq,.sl _ e s _ _=>yE b e s 0 []|_,_=>.undef) []
  split
  ·exact .nil
  ·exact .any _
def afC {F:Hf}:∀{vs:bc} {sh:ee} {ws:bb},kX F sh vs (mkT sh ws vs) []
 | [],_,_=>.nil
 |v::vs,sh,ws=>.cons (a:= []) aJT afC
def mkI (E:Env) (pn:Nat->Bool) (s:LS) (d:cD) (op:Op) (z:bb) (Q:bz) (l:Nat) (sh:ee) (ob:Prop->cH):Z oX:=
 match op with
 | .makeSlice t a c=>cC (ON E t) d λp K=>(match dU s.ts a,dU s.ts c with
  | .lit (.int _ (.lit n1)),.lit (.int _ (.lit n2))=>aT (nN p.2&&(!pn K&&JR s K)) (V ⟨[ob (MkP n1 n2 (mkT sh z p.2.zero) Q l)],s.set K (.bY I p.1 p.2.size sh Q []),.ms K p.2.size 0 l,[K]⟩) G
  |_,_=>G)
 |_=>G
def aeX {z:bc}:∀{l m:Nat},l<=m->(rep z m).take (l*z.length)=rep z l
 |0,_,_=>by simp[rep]
 |l+1,0,h=>by omega
 |l+1,m+1,h=>by
  show (z++rep z m).take _=z++rep z l;rw[fW,so,C1,G4,aeX (by omega)]
def aJS {op:Op} {z:bb} {Q:bz} {sh:ee} {ob:Prop->cH} (hJ:∀P,(ob P).need=P) {r:oX} (h:mkI E pn s d op z Q l sh ob=V r):vg E pn op s r:=by
 unfold mkI at h;split at h
 ·rename_i t a c;obtain ⟨p,K,hp,hd,h⟩:=bU h;split at h
  ·rename_i n1 _ n2 ha hc;obtain ⟨h1,h⟩:=ba h;cases h;simp only[bG] at h1;obtain ⟨k1,k2,k3⟩:=h1;intro hh;have hm:=hh.1;rw[hJ] at hm;obtain ⟨m,rfl,rfl,hlm,hm6,rfl⟩:=hm;obtain ⟨i,hi,he,hie⟩:=yT hp;have oA:=Qg k1;have hzl:(mkT sh z p.2.zero).length=p.2.size:=by rw[<-(afC (F:=λ_=>G)).length,oA]
   refine .lay (by simpa using k2) (Am k3) λ{F g Y c T H new} r=> ?_
   obtain ⟨v,v1,v2⟩:=r.val ha (by simp)
   obtain ⟨w,w1,w2⟩:=r.val hc (by simp)
   cases v2;cases w2;refine ⟨.sl new 0 l (.k m),.cells p.1 (rep p.2.zero m),.k m,?_,λg' e1 e2=>⟨sK e1,tabN e1 (λr hr=>by rw[List.eq_of_mem_replicate hr];exact hzl) ?_ ?_⟩⟩
   ·show two T a _ (λu v=>cC (oP u) (oP v) (Hy E new t))=_
    rw[two,v1,w1];show Hy E new t l m=_;unfold Hy;rw[gb hi,gb he,gb hie,(bR _ _).2 hlm,(bR _ _).2 hm6,k1];rfl
   ·have:∀m,(rep p.2.zero m).length=m*p.2.size:=λm=>by
     rw[(aeW (F:=λ_=>G) (g:=lH) uF m).length,X5,yK,mL,oA]
    rw[vY];exact ⟨hlm,this m⟩
   ·rw[vY,<-oA,aeX hlm];have:∀l,TR F sh (rep p.2.zero l) (V' l (mkT sh z p.2.zero)) []:=λl=>by
     induction l with
     |zero=>exact .nil
     |succ l ih=>rw[V2];exact .cons (a:= []) (b:= []) afC ih
    exact this l
  ·cases h
 ·cases h
def divL (op:X') (k:O') (m n:Int):Z AV:=
 match op with
 | .rem=>V (.int k (m.tmod n))
 | .quo=>V (.int k (k.wrap (m.tdiv n)))
 |_=>G
def azz (E:Env) (s:LS) (op:Op) (n:Nat) (ob:Prop->cH):Z oX:=
 match op with
 | .binOp o _ a b _=>(match dU s.ts a,dU s.ts b with
  | .lit (.int k (.lit x)),.lit (.int k' (.lit y))=>aT (ij k k') (az (divL o k x y) λz=>V ⟨[ob (y≠0)],s,z,[]⟩) G
  | .lit (.str x),.lit (.str y)=>(match o with
   | .add=>V ⟨[ob (x.size+y.size<=1000000)],s,.str (x++y),[]⟩
   |_=>G)
  |_,_=>G)
 | .index t a ix=>az (E.ty.get t) λi=>(match dU s.ts a,dU s.ts ix with
  | .lit (.str b),.lit (.int _ (.lit m))=>aT (HG i.desc) (V ⟨[ob ((Bz b.data.toList m).map UInt8.toNat=V n)],s,.int .u8 (n:Int),[]⟩) G
  |_,_=>G)
 | .next it M=>(match dU s.ts it with
  | .it K=>(match lk K s.bs with
   |some (.iter b pos)=>aT (ku n 0) (V ⟨[ob (¬pos<b.size)],s,.dr [.bool I],[]⟩) (V ⟨[ob (pos<b.size)],s.set K (.iter b (wW pos (Z' b pos).2)),.dr [.bool M,.int .i64 (pos:Int),.int .i32 (Z' b pos).1],[K]⟩)
   |_=>G)
  |_=>G)
 |_=>G
def azU {k:O'} {m n:Int} (hn:n≠0):oO P (binOp .rem t (.int k m) (.int k n))=V (.int k (m.tmod n)):=by
 have:binOp .rem t (.int k m) (.int k n)=Sem.pure (.int k (m.tmod n)):=by
  simp[binOp,Op.intDiv,hn,pure]
 rw[this];rfl
def azV {k:O'} {m n:Int} (hn:n≠0):oO P (binOp .quo t (.int k m) (.int k n))=V (.int k (k.wrap (m.tdiv n))):=by
 have:binOp .quo t (.int k m) (.int k n)=Sem.pure (.int k (k.wrap (m.tdiv n))):=by
  simp[binOp,Op.intDiv,hn,pure]
 rw[this];rfl
def aBP {a b:U} (hn:a.size+b.size<=1000000):oO P (binOp .add t (.string a) (.string b))=V (.string (a++b)):=by
 have h1:¬(((a.size+b.size:Nat):Int)>IntKind.i64.max):=by
  have:IntKind.i64.max=9223372036854775807:=by decide
  omega
 have:binOp .add t (.string a) (.string b)=Sem.pure (.string (a++b)):=by
  show Op.stringOp .add a b=_;unfold Op.stringOp;simp only[];rw[aC h1];rfl
 rw[this];rfl
def afS (r:Rel F g Y c s T H) {b:U} (ha:dU s.ts it= .it K) (hb:lk K s.bs=V (.iter b pos)):Y K= [((g K).n,.pY b pos)]/\∀new,vu E (.next it M) T H new=V (HB (g K).n (b,pos)):=by
 obtain ⟨v,v1,v2⟩:=r.val ha (by simp)
 cases v2;obtain ⟨q,_,q3⟩:=r.bx K _ hb;generalize Y K=L at q q3;cases q with
 |iter=>
 refine ⟨rfl,λnew=> ?_⟩
 show one T it (DU H M)=_;rw[one,v1];show az (OE (H (g K).n)) (λp=>V (HB (g K).n p))=_
 rw[(q3 ((g K).n,.pY b pos) (by simp)).1];rfl
def aGM {op:Op} {ob:Prop->cH} (hJ:∀P,(ob P).need=P) {r:oX} (h:azz E s op n ob=V r):vg E pn op s r:=by
 unfold azz at h;split at h
 ·rename_i o t a b t2;split at h
  ·rename_i k x k' y ha hb;obtain ⟨hk,h⟩:=ba h;obtain ⟨z,hz,h⟩:=aq h;cases h;obtain rfl:=QO hk;intro hh;have hn:=hh.1;rw[hJ] at hn;exact .bi (f:=λv u=>same (Ri E _ _ _ _ v u)) (λ_ _ _=>rfl) ha (by simp) hb (by simp) λ{F g v w} hv hw=>by
    cases hv;cases hw;cases o<;>first|(cases hz;done)|skip
    ·cases hz;refine ⟨.int k (.lit (k.wrap (x.tdiv y))),?_,.lit _⟩;show same (Jr (oO E.P (binOp .quo t (.int k x) (.int k y))))=_;rw[azV hn];rfl
    ·cases hz;refine ⟨.int k (.lit (x.tmod y)),?_,.lit _⟩;show same (Jr (oO E.P (binOp .rem t (.int k x) (.int k y))))=_;rw[azU hn];rfl
  ·rename_i x y ha hb;split at h
   ·cases h;intro hh;have hn:=hh.1;rw[hJ] at hn;exact .bi (f:=λv u=>same (Ri E _ _ _ _ v u)) (λ_ _ _=>rfl) ha (by simp) hb (by simp) λ{F g v w} hv hw=>by
     cases hv;cases hw;refine ⟨.str (x++y),?_,.lit _⟩;show same (Jr (oO E.P (binOp .add t (.string x) (.string y))))=_;rw[aBP hn];rfl
   ·cases h
  ·cases h
 ·obtain ⟨i,hi,h⟩:=aq h;split at h
  ·rename_i b _ m ha By;obtain ⟨hd,h⟩:=ba h;cases h;intro hh;have hn:=hh.1;rw[hJ] at hn;obtain ⟨cc,h1,h2⟩:=wc.1 hn;obtain ⟨j,rfl,h3⟩:=Qe h1;exact .bi (f:=λv u=>az (oP u) λk=>Ad E _ k v) (λ_ _ _=>rfl) ha (by simp) By (by simp) λ{F g v w} hv hw=>by
    cases hv;cases hw;refine ⟨_,?_,.lit _⟩;show Ad E _ j (.str b)=_;unfold Ad;rw[gb hi];generalize i.desc=d at hd;cases d<;>first|(cases hd;done)|skip
    show az (b.data.toList[j]?) (λb=>V (SV.int .u8 (.lit (.ofNat b.toNat)),([]:gO)))=_
    rw[gb h3,<-h2];rfl
  ·cases h
 ·split at h
  ·rename_i K ha;split at h
   ·rename_i b pos hb;rw[cE] at h;split at h
    ·cases h;intro hh;have dq:=hh.1;rw[hJ] at dq;refine .val λ{F g Y c T H} r=>⟨.dr [.bool I],λnew=> ?_,.dr (.cons (.lit _) .nil)⟩
     rw[(afS r ha hb).2];have hx:kQ (LJ pos) b.size=I:=by
      cases hx:kQ (LJ pos) b.size with
      |false=>rfl
      |true=>exact absurd ((bR _ _).1 hx) dq
     show V (aT (kQ (LJ pos) b.size) _ _)=_;rw[hx]
    ·cases h;intro hh;have dq:=hh.1;rw[hJ] at dq;refine .wr hb λ{F g Y c T H} r=> ?_
     obtain ⟨hφ,go⟩:=afS (E:=E) r ha hb;refine ⟨.dr [.bool M,wH pos,.int .i32 (.lit (Z' b pos).1)],_,.pY b (pos+(Z' b pos).2),[],[],hφ,λnew=> ?_,.dr (.cons (.lit _) (.cons (.lit _) (.cons (.lit _) .nil))),.iter,.refl _⟩
     rw[go];show V (aT (kQ (LJ pos) b.size) _ _)=_;rw[(bR _ _).2 dq];rfl
   ·cases h
  ·cases h
 ·cases h
end
section
variable {F F':Hf} {g g':Gb} {Y:Nat->Ow} {c:Nat->cD} {s s':LS} {T:Tf} {H:Hf} {E:Env} {pn:Nat->Bool}
def S0:AV->AV->Z Bool
 | .lit (.str a),.lit (.str b)=>V (iL (a=b))
 | .lit (.bool a),.lit (.bool b)=>V (a==b)
 | .lit (.int k (.lit a)),.lit (.int k' (.lit b))=>aT (ij k k') (V (iL (a=b))) G
 |_,_=>G
def afQ:AV->UD->Bool
 | .lit (.str _),d=>HG d
 | .lit (.bool _),d=>OF d
 | .lit (.int k (.lit _)),d=>apO k d
 |_,_=>I
def tK (k:AV):List (AV×AV)->Z (Z (Nat×AV))
 | []=>V G
 |e::es=>
  match S0 k e.1 with
  |some M=>V (V (0,e.2))
  |some I=>(match tK k es with|some (V p)=>V (V (p.1+1,p.2))|r=>r)
  |none=>G
def QP {k x:AV} {b:Bool} (hu:VA F g u k) (hv:VA F g' v x) (hb:S0 k x=V b):sameKey u v=V b/\(b=M->k=x):=by
 unfold S0 at hb;split at hb
 ·cases hb;cases hu;cases hv;exact ⟨by show V (Gj _ _)=_;rw[xY],λh=>by simp at h;rw[h]⟩
 ·cases hb;cases hu;cases hv;exact ⟨rfl,λh=>by simp at h;rw[h]⟩
 ·obtain ⟨hk,hb⟩:=ba hb;cases hb;cases hu;cases hv;exact ⟨by show aT (ij _ _) (V (JD _ _)) G=_;rw[hk,Dh],λh=>by simp at h;rw[h,QO hk]⟩
 ·cases hb
def amN {k:AV} {d:UD} (hu:VA F g u k) (hd:afQ k d=M):LX u d=M/\(kG k).isEmpty=M:=by
 unfold afQ at hd;split at hd
 ·cases hu;exact ⟨hd,rfl⟩
 ·cases hu;exact ⟨hd,rfl⟩
 ·cases hu;exact ⟨(show (M&&apO _ d)=M by rw[iT];exact hd),rfl⟩
 ·cases hd
def Yz {k:AV} {u:SV} (hu:VA F g u k):∀{es:List (AV×AV)} {ms:ig} (j:Nat),dH F lH (ms.map (·.1)) (es.map (·.1))->dH F lH (ms.map (·.2.1)) (es.map (·.2))->
  (tK k es=V G->rC u ms j=V G)/\∀i x,tK k es=V (V (i,x))->∃v c,rC u ms j=V (V (j+i,v,c))/\VA F lH v x/\es[i]? =V (k,x)/\i<ms.length/\(ms.map (·.2.2))[i]? =V c
 | [],[],j,_,_=>⟨λ_=>rfl,λi x h=>by cases h⟩
 | [],m::ms,j,h,_=>by cases h
 |e::es,[],j,h,_=>by cases h
 |e::es,m::ms,j,h1,h2=>by
  cases h1 with|cons a1 t1=>
  cases h2 with|cons a2 t2=>
  obtain ⟨i1,i2⟩:=Yz hu (es:=es) (ms:=ms) (wW j 1) t1 t2;constructor
  ·intro hf;unfold tK at hf;unfold rC;split at hf
   ·cases hf
   ·rename_i hk;rw[(QP hu a1 hk).1];show rC u ms (wW j 1)=_;split at hf
    ·cases hf
    ·exact i1 hf
   ·cases hf
  ·intro i x hf;unfold tK at hf;unfold rC;split at hf
   ·rename_i hk;cases hf;obtain ⟨q1,q2⟩:=QP hu a1 hk;rw[q1];exact ⟨m.2.1,m.2.2,rfl,a2,by rw[q2 rfl];rfl,by simp,by simp⟩
   ·rename_i hk;rw[(QP hu a1 hk).1];show ∃v c,rC u ms (wW j 1)=_/\_;split at hf
    ·rename_i p hp;cases hf;obtain ⟨v,c,b1,b2,b3,b4,b5⟩:=i2 p.1 p.2 hp;refine ⟨v,c,?_,b2,by simpa using b3,by simpa using b4,by simpa using b5⟩
     rw[b1,show wW j 1+p.1=j+(p.1+1) from by show j+1+p.1=_;omega]
    ·rename_i cQ;exact absurd hf (cQ _)
   ·cases hf
def Au.snoc {c:Nat} (h:Au ms c):Au (ms++ [(w,u,c)]) (c+1):=by
 refine ⟨λn hn=> ?_,?_⟩
 ·rw[ka] at hn;rcases eV.1 hn with hn|hn
  ·have:=h.1 n hn;omega
  ·have:n=c:=by simpa using hn
   omega
 ·rw[ka];exact Ds.2 ⟨h.2,by simp,λa ha b hb e=>by
   have hb:b=c:=by simpa using hb
   have:=h.1 a ha;omega⟩
def Au.set {c i:Nat} (h:Au ms c) (hk:(ms.map (·.2.2))[i]? =V k):Au (ms.set i (w,u,k)) c:=by
 have e:(ms.set i (w,u,k)).map (·.2.2)=ms.map (·.2.2):=by
  rw[Dr];obtain ⟨h1,h2⟩:=bO.1 hk;rw[show (w,u,k).2.2=(ms.map (·.2.2))[i] from h2.symm]
  exact Lb h1
 unfold Au;rw[e];exact h
def uK (E:Env) (t:pJ):Z (TI×TI):=az (E.ty.get t) λi=>az (Gv i.desc) λq=>cC (E.ty.get q.1) (E.ty.get q.2) λa b=>V (a,b)
def Zz {p:TI×TI} (h:uK E t=V p):∃i q,E.ty.get t=V i/\Gv i.desc=V q/\E.ty.get q.1=V p.1/\E.ty.get q.2=V p.2:=by
 obtain ⟨i,hi,h⟩:=aq h;obtain ⟨q,hq,h⟩:=aq h;obtain ⟨a,b,h1,h2,h⟩:=bU h;cases h;exact ⟨i,q,hi,hq,h1,h2⟩
def okM (ok:Bool) (v:AV) (b:Bool):AV:=aT ok (.dr [v,.bool b]) v
def avR {ok b:Bool} {x:AV} (h:VA F g v x):VA F g (okV ok v b) (okM ok x b):=by
 cases ok
 ·exact h
 ·exact .dr (.cons h (.cons (.lit _) .nil))
def Ta (ok:Bool) (z:Z AV):Z (Nat×AV)->Z AV
 |some r=>V (okM ok r.2 M)
 |none=>az z λz=>V (okM ok z I)
def acR (es:List (AV×AV)) (k v:AV):Z (Nat×AV)->List (AV×AV)
 |some r=>es.set r.1 (k,v)
 |none=>es++ [(k,v)]
def dH.azP:∀{vs xs} {i:Nat} {v:SV} {x:AV},dH F g vs xs->VA F g v x->dH F g (vs.set i v) (xs.set i x)
 |_,_,_,_,_,.nil,_=>.nil
 |_,_,0,_,_,.cons _ t,k=>.cons k t
 |_,_,i+1,_,_,.cons h t,k=>.cons h (t.azP k)
def Rel.map (r:Rel F g Y c s T H) {K:Nat} {es:List (AV×AV)} (hb:lk K s.bs=V (.map es)):∃ms cl,Y K= [((g K).n,.map ms cl)]/\H (g K).n=V (.map ms cl)/\dH F lH (ms.map (·.1)) (es.map (·.1))/\dH F lH (ms.map (·.2.1)) (es.map (·.2))/\Au ms cl:=by
 obtain ⟨q,_,q3⟩:=r.bx K _ hb;generalize Y K=L at q q3;cases q with
 | @map _ ms cl hk hv hw=>exact ⟨ms,cl,rfl,(q3 ((g K).n,.map ms cl) (by simp)).1,hk,hv,hw⟩
def aAj (E:Env) (s:LS) (op:Op) (x:AV) (K3:List (AV×AV)) (ob:Prop->cH):Z oX:=
 match op with
 | .lookup t a c ok=>az (uK E t) λp=>(match dU s.ts a with
  | .mp K=>(match lk K s.bs with
   |some (.map es)=>aT (afQ (dU s.ts c) p.1.desc&&(kG x).isEmpty) (V ⟨[ob (∃f,tK (dU s.ts c) es=V f/\Ta ok (wk p.2 (yK p.2.zero) 0) f=V x)],s,x,[]⟩) G
   |_=>G)
  |_=>G)
 | .mapUpdate t a c d=>az (uK E t) λp=>(match dU s.ts a with
  | .mp K=>(match lk K s.bs with
   |some (.map es)=>aT (afQ (dU s.ts c) p.1.desc) (az (HC (dU s.ts d)) λx'=>aT (kG x').isEmpty (V ⟨[ob (∃f,tK (dU s.ts c) es=V f/\acR es (dU s.ts c) x' f=K3)],s.set K (.map K3),.dr [],[K]⟩) G) G
   |_=>G)
  |_=>G)
 |_=>G
def amO {k:AV} {d:UD} (h:afQ k d=M):k≠ .undef:=λe=>by rw[e] at h;cases h
def aHI {op:Op} {x:AV} {K3:List (AV×AV)} {ob:Prop->cH} (hJ:∀P,(ob P).need=P) {r:oX} (h:aAj E s op x K3 ob=V r):vg E pn op s r:=by
 unfold aAj at h;split at h
 ·rename_i t a k ok;obtain ⟨p,hp,h⟩:=aq h;split at h
  ·rename_i K ha;split at h
   ·rename_i es hb;obtain ⟨h1,h⟩:=ba h;cases h;rw[bG] at h1;intro hh;have hf:=hh.1;rw[hJ] at hf;obtain ⟨f,hf,hx⟩:=hf;obtain ⟨i,q,hi,hq,e1,e2⟩:=Zz hp;refine .val λ{F g Y c T H} r=> ?_
    obtain ⟨v,v1,v2⟩:=r.val ha (by simp)
    obtain ⟨w,w1,w2⟩:=r.val rfl (amO h1.1);cases v2;obtain ⟨ms,cl,_,hH,Bw,yi,_⟩:=r.map hb;obtain ⟨m1,m2⟩:=Yz w2 0 Bw yi;have key:∃r,rC w ms 0=V r/\∃u,Mw ok (je p.2 p.2.zero 0) r=V u/\VA F g u x:=by
     cases f with
     |none=>
      obtain ⟨z,hz,hx⟩:=aq hx;cases hx;obtain ⟨u,u1,u2⟩:=yd (uF (F:=F) (g:=lH) (vs:=p.2.zero)) hz;exact ⟨G,m1 hf,okV ok u I,by show az (je p.2 p.2.zero 0) (λz=>V (okV ok z I))=_;rw[u1];rfl,(avR u2).sI h1.2⟩
     |some r=>
      cases hx;obtain ⟨v,c,b1,b2,_⟩:=m2 r.1 r.2 hf;exact ⟨_,b1,okV ok v M,rfl,(avR b2).sI h1.2⟩
    obtain ⟨r',k1,u,u1,u2⟩:=key;refine ⟨u,λnew=> ?_,u2⟩
    show two T a k (λa b=>same (wu E H t a b ok))=_
    rw[two,v1,w1];show same (wu E H t (.mp (g K).n) w ok)=_;unfold wu;rw[gb hi,gb hq,EA e1 e2,(amN w2 h1.1).1];show same (az (az (kN (H (g K).n)) λp=>V p.1) λes=>az (rC w es 0) λr=>Mw ok (je p.2 p.2.zero 0) r)=_
    rw[hH];show same (az (rC w ms 0) λr=>Mw ok (je p.2 p.2.zero 0) r)=_
    rw[k1];show same (Mw ok (je p.2 p.2.zero 0) r')=_;rw[u1];rfl
   ·cases h
  ·cases h
 ·rename_i t a k d;obtain ⟨p,hp,h⟩:=aq h;split at h
  ·rename_i K ha;split at h
   ·rename_i es hb;obtain ⟨h1,h⟩:=ba h;obtain ⟨x',h2,h⟩:=aq h;obtain ⟨rfl,cQ⟩:=qc h2;obtain ⟨h3,h⟩:=ba h;cases h;intro hh;have hf:=hh.1;rw[hJ] at hf;obtain ⟨f,hf,rfl⟩:=hf;obtain ⟨i,q,hi,hq,e1,e2⟩:=Zz hp;refine .wr hb λ{F g Y c T H} r=> ?_
    obtain ⟨v,v1,v2⟩:=r.val ha (by simp)
    obtain ⟨w,w1,w2⟩:=r.val rfl (amO h1);obtain ⟨u,u1,u2⟩:=r.val rfl cQ;cases v2;obtain ⟨ms,cl,hφ,hH,Bw,yi,hw⟩:=r.map hb;obtain ⟨hlk,hkk⟩:=amN w2 h1;obtain ⟨m1,m2⟩:=Yz w2 0 Bw yi;have key:∃r,rC w ms 0=V r/\∃Fg cl',acS ms cl w u r= .map Fg cl'/\dH F lH (Fg.map (·.1)) ((acR es (dU s.ts k) (dU s.ts d) f).map (·.1))/\dH F lH (Fg.map (·.2.1)) ((acR es (dU s.ts k) (dU s.ts d) f).map (·.2))/\Au Fg cl':=by
     cases f with
     |none=>
      refine ⟨G,m1 hf,ms++ [(w,u,cl)],wW cl 1,rfl,?_,?_,hw.snoc⟩
      ·show dH F lH ((ms++ [(w,u,cl)]).map (·.1)) ((es++ [(dU s.ts k,dU s.ts d)]).map (·.1))
       rw[ka,ka];exact Bw.append (.cons (w2.sI hkk) .nil)
      ·show dH F lH ((ms++ [(w,u,cl)]).map (·.2.1)) ((es++ [(dU s.ts k,dU s.ts d)]).map (·.2))
       rw[ka,ka];exact yi.append (.cons (u2.sI h3) .nil)
     |some r=>
      obtain ⟨v,c,b1,b2,b3,b4,b5⟩:=m2 r.1 r.2 hf;refine ⟨_,b1,ms.set (0+r.1) (w,u,c),cl,rfl,?_,?_,hw.set (by rw[cg];exact b5)⟩
      ·show dH F lH ((ms.set (0+r.1) (w,u,c)).map (·.1)) ((es.set r.1 (dU s.ts k,dU s.ts d)).map (·.1))
       rw[Dr,Dr,cg];exact Bw.azP (w2.sI hkk)
      ·show dH F lH ((ms.set (0+r.1) (w,u,c)).map (·.2.1)) ((es.set r.1 (dU s.ts k,dU s.ts d)).map (·.2))
       rw[Dr,Dr,cg];exact yi.azP (u2.sI h3)
    obtain ⟨r',k1,Fg,cl',k2,k3,k4,k5⟩:=key;refine ⟨.dr [],_,.map Fg cl',[],[],hφ,λnew=> ?_,.dr .nil,.map k3 k4 k5,.refl _⟩
    show two T a k (λa b=>one T d λc=>unit (BR E H t a b c))=_
    unfold two one;rw[v1,w1];show az (dB T d) (λc=>unit (BR E H t (.mp (g K).n) w c))=_
    rw[u1];show unit (BR E H t (.mp (g K).n) w u)=_;have e1:BR E H t (.mp (g K).n) w u=V [((g K).n,V (.map Fg cl'))]:=by
     show az (E.ty.get t) (λi=>az (Gv i.desc) λq=>cC (E.ty.get q.1) (kN (H (g K).n)) λik p=>aT (LX w ik.desc) (az (rC w p.1 0) λr=>V [((g K).n,V (acS p.1 p.2 w u r))]) G)=_
     rw[gb hi,gb hq,hH,EA e1 (show kN (V (SO.map ms cl))=V (ms,cl) from rfl),hlk];show az (rC w ms 0) (λr=>V [((g K).n,V (acS ms cl w u r))])=_
     rw[k1];show V [((g K).n,V (acS ms cl w u r'))]=_;rw[k2]
    rw[e1];rfl
   ·cases h
  ·cases h
 ·cases h
inductive Pl where
 |row (R:bb) (fs:bJ)
 |nat (k:Nat)
 |uR (Q:bz)
 |app (w:Bool) (R Q:bz) (n:Nat)
 |Lr
 |cut (l u:Nat) (R:bz) (n:Nat)
 |mk (z:bb) (Q:bz) (l:Nat) (sh:ee)
 |val (n:Nat)
 |lkp (x:AV) (es:List (AV×AV))
 |eqv (y:AV)
 |laid (b:Bx)
 |FE (R Q:bz) (m:Nat)
def RY (E:Env) (pn:Nat->Bool) (s:LS) (d:cD) (op:Op):Z oX:=
 (Sw E s op).elim ((Sv E s op).elim ((aqe E s op).elim (az d λK=>aT (!pn K&&JR s K) (az (afj E s K op) λp=>V ⟨[],s.set K p.1,p.2,[K]⟩) G) V) λp=>V ⟨[],s.set p.1 p.2,.dr [],[p.1]⟩) λx=>V ⟨[],s,x,[]⟩
def Qr {op:Op} {r:oX} (h:RY E pn s d op=V r):vg E pn op s r:=by
 unfold RY at h;cases h1:Sw E s op with
 |some x=>rw[h1] at h;cases h;exact λ_=>avs h1
 |none=>
  rw[h1] at h;cases h2:Sv E s op with
  |some x=>rw[h2] at h;cases h;exact λ_=>avq h2
  |none=>
   rw[h2] at h;cases h3:aqe E s op with
   |some x=>rw[h3] at h;cases h;exact aHV h3
   |none=>
    rw[h3] at h;obtain ⟨K,_,h⟩:=aq h;obtain ⟨h4,h⟩:=ba h;obtain ⟨p,h5,h⟩:=aq h;cases h;rw[bG] at h4;exact λ_=>avr (Am h4.2) (by simpa using h4.1) h5
def aoO (E:Env) (pn:Nat->Bool) (s:LS) (d:cD) (op:Op) (pl:Pl) (ob:Prop->cH):Z oX:=
 match pl with
 | .row R fs=>azS E s op R fs ob
 | .nat k=>aAB E s op k ob
 | .uR Q=>azF E s op Q ob
 | .app w R Q n=>appI E pn s d op w R Q n ob
 | .Lr=>tapI E pn s d op ob
 | .cut l u R n=>aBL E s op l u R n ob
 | .mk z Q l sh=>mkI E pn s d op z Q l sh ob
 | .val n=>azz E s op n ob
 | .lkp x es=>aAj E s op x es ob
 | .FE R Q m=>cpyI E s op R Q m ob
 | .eqv y=>az (RY E pn s d op) λr=>V ⟨ob (r.x=y)::r.DV,r.s,y,r.W⟩
 | .laid b=>cC d (RY E pn s d op) λK r=>V ⟨ob (lk K r.s.bs=V b)::r.DV,r.s.set K b,r.x,r.W⟩
def ade {op:Op} {pl:Pl} {ob:Prop->cH} (hJ:∀P,(ob P).need=P) {r:oX} (h:aoO E pn s d op pl ob=V r):vg E pn op s r:=by
 cases pl with
 |row=>exact aHq hJ h
 |nat=>exact aHU hJ h
 |uR=>exact aGP hJ h
 |app=>exact aIv hJ h
 |Lr=>exact aGO hJ h
 |cut=>exact aId hJ h
 |mk=>exact aJS hJ h
 |val=>exact aGM hJ h
 |lkp=>exact aHI hJ h
 |FE=>exact aIg hJ h
 |eqv y=>
  obtain ⟨r0,h1,h⟩:=aq h;cases h;intro ho;obtain ⟨o1,o2⟩:=ho;rw[hJ] at o1;subst o1;exact (show Ok E pn op s r0.s r0.x r0.W from Qr h1 o2)
 |laid b=>
  obtain ⟨K,r0,_,h1,h⟩:=bU h;cases h;intro ho;obtain ⟨o1,o2⟩:=ho;rw[hJ] at o1;have h2:=Qr h1 o2;refine ⟨λ{F g Y c T H new} r hn=> ?_⟩
  obtain ⟨v,us,g',φ',c',a1,a2,a3,a4⟩:=h2.go r hn;refine ⟨v,us,g',φ',c',a1,a2,a3.sub (λ_ _ h=>h) λk b' hb=> ?_,a4⟩
  rw[show (r0.s.set K b).bs=(K,b)::r0.s.bs from rfl,dy] at hb;split at hb
  ·rename_i e;rw[e,o1];exact hb
  ·exact hb
end
section
variable {F F':Hf} {g g':Gb} {Y:Nat->Ow} {c:Nat->cD} {s s':LS} {T:Tf} {H:Hf} {E:Env} {pn:Nat->Bool}
variable {K2:Nat}
mutual
def JQ (K:Nat) (D:Nat->Nat->AV) (L:Nat->Nat->AV):AV->AV
 | .agg cs=>.agg (Fy K D L cs)
 | .dr cs=>.dr (Fy K D L cs)
 | .fn f a b=>.fn f (Fy K D L a) (Fy K D L b)
 | .ms k s lo n=>aT (ku k K) (D s lo) (.ms k s lo n)
 | .el k s j f=>aT (ku k K) (L j f) (.el k s j f)
 |x=>x
def Fy (K:Nat) (D:Nat->Nat->AV) (L:Nat->Nat->AV):bb->bb
 | []=> []
 |x::l=>JQ K D L x::Fy K D L l
end
mutual
def afy (K sz:Nat):AV->bJ
 | .agg cs=>Fa K sz cs
 | .dr cs=>Fa K sz cs
 | .fn f a b=>Fa K sz a++Fa K sz b
 | .ms k s lo n=>aT (ku k K&&(ku s sz&&ku lo 0)) [n] []
 |_=> []
def Fa (K sz:Nat):bb->bJ
 | []=> []
 |x::l=>afy K sz x++Fa K sz l
end
mutual
def amR {K sz:Nat} {D:Nat->Nat->AV} {L:Nat->Nat->AV} {N:Nat->Prop} (h1:∀{v s lo n},(s=sz->lo=0->N n)->VA F g v (.ms K s lo n)->VA F g v (D s lo)) (h2:∀{v s j f},VA F g v (.el K s j f)->VA F g v (L j f)):∀{x:AV} {v:SV},(∀n∈afy K sz x,N n)->VA F g v x->VA F g v (JQ K D L x)
 | .agg cs,_,hn,.agg q=>.agg (Al h1 h2 hn q)
 | .dr cs,_,hn,.dr q=>.dr (Al h1 h2 hn q)
 | .fn f a b,_,hn,.fn _ q1 q2=>.fn _ (Al h1 h2 (λn h=>hn n (gX _ h)) q1) (Al h1 h2 (λn h=>hn n (jb _ h)) q2)
 | .ms k s lo n,v,hn,q=>by
  show VA F g v (aT (ku k K) (D s lo) (.ms k s lo n));rw[cE];split
  ·rename_i e;obtain rfl:=(beq_iff _ _).1 e;refine h1 (λe1 e2=>hn n ?_) q
   show n∈aT (ku k k&&(ku s sz&&ku lo 0)) [n] [];rw[e,(beq_iff _ _).2 e1,(beq_iff _ _).2 e2];exact gL.2 rfl
  ·exact q
 | .el k s j f,v,hn,q=>by
  show VA F g v (aT (ku k K) (L j f) (.el k s j f));rw[cE];split
  ·rename_i e;obtain rfl:=(beq_iff _ _).1 e;exact h2 q
  ·exact q
 | .lit _,_,_,q| .sl ..,_,_,q| .kh _,_,_,q| .mp _,_,_,q| .it _,_,_,q| .undef,_,_,q=>q
def Al {K sz:Nat} {D:Nat->Nat->AV} {L:Nat->Nat->AV} {N:Nat->Prop} (h1:∀{v s lo n},(s=sz->lo=0->N n)->VA F g v (.ms K s lo n)->VA F g v (D s lo)) (h2:∀{v s j f},VA F g v (.el K s j f)->VA F g v (L j f)):∀{x:bb} {v:bc},(∀n∈Fa K sz x,N n)->dH F g v x->dH F g v (Fy K D L x)
 |_,_,_,.nil=>.nil
 |_,_,hn,.cons q t=>.cons (amR h1 h2 (λn h=>hn n (gX _ h)) q) (Al h1 h2 (λn h=>hn n (jb _ h)) t)
end
def Bx.mapV (k:AV->AV) (ks:bb->bb):Bx->Bx
 | .flat e cs=>.flat e (ks cs)
 | .bY z e s l Q o=>.bY z e s l Q (o.map λp=>(p.1,k p.2))
 |b=>b
def Yg (K sz:Nat):fk->bJ
 | []=> []
 |p::l=>afy K sz p.2++Yg K sz l
def Yh (K sz:Nat):cT->bJ
 | []=> []
 |p::l=>(match p.2 with| .flat _ cs=>Fa K sz cs| .bY _ _ _ _ _ o=>Yg K sz o|_=> [])++Yh K sz l
def QH {K sz n t:Nat} {x:AV}:∀{l:fk},(t,x)∈l->n∈afy K sz x->n∈Yg K sz l
 |p::l,h,hn=>(da.1 h).elim (λe=>gX _ (e ▸ hn)) λh=>jb _ (QH h hn)
def LS.er (s:LS) (K:Nat) (D:Nat->Nat->AV) (L:Nat->Nat->AV):LS:=⟨s.ts.map λp=>(p.1,JQ K D L p.2),(lp K s.bs).map λp=>(p.1,p.2.mapV (JQ K D L) (Fy K D L))⟩
def noK (x:AV):AV:=aT (kG x).isEmpty x .undef
def aJO {x:AV} (q:VA F g v x):VA F g' v (noK x):=by
 unfold noK;rw[cE];split
 ·rename_i h;exact q.sI h
 ·exact .undef v
def amw:∀{vs xs},dH F g vs xs->dH F g' vs (xs.map noK)
 |_,_,.nil=>.nil
 |_,_,.cons q t=>.cons (aJO q) (amw t)
def B7 (m n:Nat) (b:Bx) (s lo:Nat):AV:=
 match b with
 | .bY z e sz _ Q _=>aT (ku s sz&&ku lo 0) (.sl (aT (ku m 2) 2 (aT z 1 0)) e sz n Q) .undef
 |_=>.undef
def JP (b:Bx) (j f:Nat):AV:=
 match b with
 | .flat _ cs=>aT (ku j 0&&kQ f cs.length) (.kh ((cs.map noK).drop f)) .undef
 |_=>.undef
def Bx.Ls (b:Bx):Nat×bz:=
 match b with
 | .bY _ _ sz _ Q _=>(sz,Q)
 |_=>(0,[])
def LS.agC (s:LS) (K m n:Nat) (b:Bx):LS:=s.er K (B7 m n b) (JP b)
def agB (s:LS) (K n:Nat) (b:Bx) (ob:Prop->cH):List cH:=ob (b.Ls.2.length=n)::(Yg K b.Ls.1 s.ts++Yh K b.Ls.1 s.bs).map λn'=>ob (b.Ls.2.length=n')
def ahk {J:Type} {f:J->cH}:∀{l:List J},jl (l.map f)->∀x∈l,(f x).need
 |y::l,h,x,hx=>(da.1 hx).elim (λe=>e ▸ h.1) λhx=>ahk h.2 x hx
def QI {K sz n k:Nat} {b:Bx}:∀{l:cT},(k,b)∈l->(n∈match b with| .flat _ cs=>Fa K sz cs| .bY _ _ _ _ _ o=>Yg K sz o|_=> [])->n∈Yh K sz l
 |p::l,h,hn=>(da.1 h).elim (λe=>gX _ (e ▸ hn)) λh=>jb _ (QI h hn)
def Rel.er (r:Rel F g Y c s T H) {m:Nat} {b:Bx} {ob:Prop->cH} (hJ:∀P,(ob P).need=P) (hb:lk K s.bs=V b) (ho:jl (agB s K n b ob)):∃F' c',oE F F'/\((∀i k,c' i=V k->c i=V k)/\(∀i,F' i≠G->F i≠G\/c i=V K)/\(∀i,c i≠V K->c' i=c i)/\∀i,c' i≠V K)/\Rel F' g Y c' (s.agC K m n b) T H:=by
 obtain ⟨F',c',hF,hcw,hK,r'⟩:=r.sink K;have hK:=hK b hb;have q:=(r.bx K b hb).1;refine ⟨F',c',hF,hcw,?_⟩;obtain ⟨hn,ho⟩:=ho;rw[hJ] at hn;have h1:∀{v s lo n'},(s=b.Ls.1->lo=0->b.Ls.2.length=n')->VA F' g v (.ms K s lo n')->VA F' g v (B7 m n b s lo):=λ{v s lo n'} fw hv=>by
  unfold B7;split
  ·rename_i z e sz l Q o;rw[cE];split
   ·rename_i h;simp only[bG] at h;obtain ⟨k1,k2⟩:=h;obtain rfl:=(beq_iff _ _).1 k1;obtain rfl:=(beq_iff _ _).1 k2;have fw:Q.length=n':=fw rfl rfl;have hn:Q.length=n:=hn;have hmz:aT (ku m 2) 2 (aT z 1 0)=1->z=M:=λe=>by
     rw[cE] at e;split at e
     ·cases e
     ·cases z<;>first|rfl|cases e
    generalize Y K=L at q hK;cases q with
    |nil hbf=>
     cases hv with
     |sK=>subst hn;exact .nil _ _ _
     |ms _ _ _ h=>rw[hbf] at h;cases h
     |yI _ _ h=>cases h
    | @bY _ _ _ _ _ _ svs L tf hz hu hc q ho=>
     cases hv with
     |sK _ h=>rw[tf] at h;cases h
     |yI _ _ h=>cases h
     |ms=>
      rw[mK];subst hn;subst fw;refine .sl rfl (tj (hK ((g K).n,.cells e svs) (by simp))) ?_ (λe=>hz (hmz e)) hu (by rw[cg];exact oD hc) (by rw[ph];exact q.data hF λp hp=>hK p (dQ _ hp))
      have:=anj hc;cases hκ:(g K).c<;>rw[hκ] at this<;>exact this
   ·exact .undef v
  ·exact .undef v
 have h2:∀{v s j f},VA F' g v (.el K s j f)->VA F' g v (JP b j f):=λ{v s j f} hv=>by
  unfold JP;split
  ·rename_i e cs;rw[cE];split
   ·rename_i hf;rw[bG] at hf;obtain rfl:=(beq_iff _ _).1 hf.1;have hf:f<=cs.length:=(bR _ _).1 hf.2;cases hv;generalize Y K=L at q hK;cases q with
    | @flat _ _ svs q=>
     have hl:=q.length;rw[mK,cg];refine .kh (tj (hK ((g K).n,.cells e svs) (by simp))) (by rw[jx,mL];omega) ?_
     rw[jx,mL,jz (by rw[jx];omega)]
     exact ((amw q).mono hF).drop f
   ·exact .undef v
  ·exact .undef v
 have hN:=ahk ho;have vaA:∀{x v},(∀n∈afy K b.Ls.1 x,n∈Yg K b.Ls.1 s.ts++Yh K b.Ls.1 s.bs)->VA F' g v x->VA F' g v (JQ K (B7 m n b) (JP b) x):=λ{x v} hx q=>amR (N:=λn=>b.Ls.2.length=n) h1 h2 (λn hn=>by have:=hN n (hx n hn);rwa[hJ] at this) q
 refine r'.apa (ft:=λ_=>JQ K (B7 m n b) (JP b)) (fb:=λ_ b'=>b'.mapV (JQ K (B7 m n b) (JP b)) (Fy K (B7 m n b) (JP b))) r'.fr (λ_=>rfl) (λt v x hx q=>vaA (λn hn=>gX _ (QH (pq hx) hn)) q) λk b' L hk q=> ?_
 have hk:lk k s.bs=V b':=by
  have hk:lk k (lp K s.bs)=V b':=hk;rw[xA] at hk;split at hk
  ·cases hk
  ·exact hk
 cases q with
 |flat q=>exact .flat (Al (N:=λn=>b.Ls.2.length=n) h1 h2 (λn hn=>by have:=hN n (jb _ (QI (pq hk) hn));rwa[hJ] at this) q)
 |nil h=>exact .nil h
 |bY hb hz hu hc q ho=>
  refine .bY hb hz hu hc q λp hp=> ?_
  obtain ⟨p0,hp0,rfl⟩:=dM.1 hp;obtain ⟨v,v1,v2⟩:=ho p0 hp0;exact ⟨v,v1,vaA (λn hn=>jb _ (QI (pq hk) (QH (t:=p0.1) hp0 hn))) v2⟩
 |map h1 h2 h3=>exact .map h1 h2 h3
 |iter=>exact .iter
def Rel.Jl (r:Rel F g Y c s T H) {b b':Bx} (hb:lk K s.bs=V b) (h:∀{L},eT F g K b L->∃L',L'.Sublist L/\eT F g K b' L'):∃φ' c',(∀i k,c' i=V k->c i=V k)/\Rel F g φ' c' (s.set K b') T H:=by
 obtain ⟨q,nd,own⟩:=r.bx K b hb;obtain ⟨L',hs,q'⟩:=h q;obtain ⟨c',r',_,hc,_⟩:=r.chg q' ((hs.map _).nodup nd) (λp hp=>⟨(own p (hs.subset hp)).1,.inl (own p (hs.subset hp)).2⟩) (λi hi=>absurd rfl hi) (.inl rfl)
 refine ⟨_,c',λi k hk=> ?_,r'⟩
 rcases hc i k hk with h|⟨rfl,hm⟩
 ·exact h
 ·obtain ⟨p,hp,rfl⟩:=dM.1 hm;exact (own p (hs.subset hp)).2
def kn.Jl {b b':Bx} (hb:lk K s.bs=V b) (h:∀{F g L},eT F g K b L->∃L',L'.Sublist L/\eT F g K b' L'):kn pn s (s.set K b'):=.mk λ{F g Y c T H} r=>
 let ⟨φ',c',_,r'⟩:=r.Jl hb h
 ⟨F,g,φ',c',.refl _,λ_ _=>rfl,r'⟩
def kX.foc:∀{l vs xs L} {k:Nat} {x:AV},kX F l vs xs L->xs[k]? =V x->∃v L1 L0 L2,vs[k]? =V v/\L=L1++(L0++L2)/\TC F ((l.drop k).headD .d) v x L0/\∀y IJ,TC F ((l.drop k).headD .d) v y IJ->kX F l vs (xs.set k y) (L1++(IJ++L2))
 |_,_,_,_,_,_,.nil,h=>by cases h
 |l,_,_,_,0,x,.cons (v:=v) (b:=b) q t,h=>by
  obtain rfl:=kR (show V _=V x from h);exact ⟨v,[],_,b,rfl,rfl,q,λy IJ q'=>show kX F l _ _ (IJ++b) from .cons q' t⟩
 |l,_,_,_,k+1,x,.cons (a:=a) q t,h=>by
  obtain ⟨v,L1,L0,L2,h1,h2,h3,h4⟩:=t.foc (k:=k) (by simpa using h)
  have e:l.drop (k+1)=l.tail.drop k:=by cases l<;>simp
  rw[e];refine ⟨v,a++L1,L0,L2,by simpa using h1,by rw[h2,j8],h3,λy IJ q'=> ?_⟩
  rw[j8];exact .cons q (h4 y IJ q')
def TR.foc {s:Nat}:∀{l vs Q L} {j k:Nat} {R:bb} {x:AV},TR F l vs Q L->(∀r∈Q,r.length=s)->Q[j]? =V R->R[k]? =V x->∃v L1 L0 L2,vs[j*s+k]? =V v/\L=L1++(L0++L2)/\TC F ((l.drop k).headD .d) v x L0/\∀y IJ,TC F ((l.drop k).headD .d) v y IJ->TR F l vs (Q.set j (R.set k y)) (L1++(IJ++L2))
 |_,_,_,_,_,_,_,_,.nil,_,h,_=>by cases h
 |l,_,_,_,0,k,R,x,.cons (vs:=vs) (b:=b) q t,hu,h,hx=>by
  obtain rfl:=kR (show V _=V R from h);obtain ⟨v,L1,L0,L2,h1,h2,h3,h4⟩:=q.foc hx;refine ⟨v,L1,L0,L2++b,?_,by rw[h2];simp,h3,λy IJ q'=>by have:=TR.cons (h4 y IJ q') t;simpa using this⟩
  rw[mK,cg,pd (bO.1 h1).1];exact h1
 |l,_,_,_,j+1,k,R,x,.cons (vs:=vs) (a:=a) q t,hu,h,hx=>by
  obtain ⟨v,L1,L0,L2,h1,h2,h3,h4⟩:=t.foc (λr hr=>hu r (dQ _ hr)) (show _=V R by simpa using h) hx
  have hv:vs.length=s:=by rw[q.length];exact hu _ (j7)
  refine ⟨v,a++L1,L0,L2,?_,by rw[h2,j8],h3,λy IJ q'=> ?_⟩
  ·rw[nF (by rw[hv,fW];omega),hv,show (j+1)*s+k-s=j*s+k by rw[fW];omega]
   exact h1
  ·rw[j8];exact .cons q (h4 y IJ q')
def sV:ee->Bool
 | []=>M
 | .d::l=>sV l
 |_=>I
def FU:∀{l:ee},sV l=M->l.headD .d= .d/\sV l.tail=M
 | [],_=>⟨rfl,rfl⟩
 | .d::l,h=>⟨rfl,h⟩
def kX.sV:∀{l l' vs xs L},bM.sV l=M->bM.sV l'=M->kX F l vs xs L->kX F l' vs xs L
 |_,_,_,_,_,_,_,.nil=>.nil
 |l,l',_,_,_,h,h',.cons q t=>.cons (by rw[(FU h').1,<-(FU h).1];exact q) (t.sV (FU h).2 (FU h').2)
def TR.sV:∀{l l' vs xs L},bM.sV l=M->bM.sV l'=M->TR F l vs xs L->TR F l' vs xs L
 |_,_,_,_,_,_,_,.nil=>.nil
 |_,_,_,_,_,h,h',.cons q t=>.cons (q.sV h h') (t.sV h h')
mutual
def aBw:Sh->Sh->Bool
 | .d,.d=>M
 | .o x l,.o y m=>(x==y)&&OM l m
 |_,_=>I
def OM:ee->ee->Bool
 | [],[]=>M
 |x::l,y::m=>aBw x y&&OM l m
 |_,_=>I
end
mutual
def aHY:∀{a b:Sh},aBw a b=M->a=b
 | .d,.d,_=>rfl
 | .o x l,.o y m,h=>by
  have h:=jK.1 (show ((x==y)&&OM l m)=M from h);rw[eq_of_beq h.1,Q8 h.2]
 | .d,.o _ _,h=>by cases (show I=M from h)
 | .o _ _,.d,h=>by cases (show I=M from h)
def Q8:∀{a b:ee},OM a b=M->a=b
 | [],[],_=>rfl
 |x::l,y::m,h=>by
  have h:=jK.1 (show (aBw x y&&OM l m)=M from h);rw[aHY h.1,Q8 h.2]
 | [],_::_,h=>by cases (show I=M from h)
 |_::_,[],h=>by cases (show I=M from h)
end
def aeL (l l':ee) (Q:bz):Bool:=OM l l'||((sV l&&sV l')||(match Q with| []=>M|_=>I))
def alQ {l l':ee} {Q:bz} (h:aeL l l' Q=M) {L:Ow} (q:TR F l vs Q L):TR F l' vs Q L:=by
 unfold aeL at h;rw[sx,sx,bG] at h;rcases h with h|h|h
 ·rw[<-Q8 h];exact q
 ·exact q.sV h.1 h.2
 ·split at h
  ·cases q;exact .nil
  ·cases h
open Classical in
def Rel.split (r:Rel F g Y c s T H) {b b1 b2:Bx} {L1 L2:Ow} (hb:lk K s.bs=V b) (hk:s.free K2) (hn:lk K2 s.bs=G) (hg:∀k,k≠K2->g' k=g k) (h1:eT F g' K b1 L1) (h2:eT F g' K2 b2 L2) (hs:∀p∈L1++L2,p∈Y K) (nd:((L1++L2).map (·.1)).Nodup):
  Rel F g' (ly (ly Y K L1) K2 L2) (λi=>if i∈L2.map (·.1) then V K2 else c i) ⟨s.ts,(K2,b2)::(K,b1)::s.bs⟩ T H:=by
 obtain ⟨_,_,own⟩:=r.bx K b hb;have cQ:K≠K2:=λe=>by rw[e,hn] at hb;cases hb
 rw[ka] at nd;obtain ⟨n1,n2,n3⟩:=Ds.1 nd;have off:∀{k i},k≠K->c i=V k->i∉L2.map (·.1):=λ{k i} hk hc hm=>by
  obtain ⟨p,hp,rfl⟩:=dM.1 hm;rw[(own p (hs p (jb _ hp))).2] at hc;exact hk (kR hc).symm
 refine ⟨λt x hx hu=> ?_,λk b' jO=> ?_,λi o hi=>⟨(r.fr i o hi).1,?_⟩,λi hi=> ?_⟩
 ·obtain ⟨v,v1,v2⟩:=r.tm t x hx hu;exact ⟨v,v1,v2.same (.refl F) λk jO=>hg k λe=>hk.1 t x hx (e ▸ jO)⟩
 ·rw[show ({ts:=s.ts,bs:=(K2,b2)::(K,b1)::s.bs}:LS).bs=(K2,b2)::(K,b1)::s.bs from rfl,dy,dy] at jO;unfold ly;split at jO
  ·rename_i e;cases jO;rw[aG e,e];exact ⟨h2,n2,λp hp=>⟨(own p (hs p (jb _ hp))).1,aG (dM.2 ⟨p,hp,rfl⟩)⟩⟩
  ·rename_i e2;rw[aC e2];split at jO
   ·rename_i e;cases jO;rw[aG e,e];refine ⟨h1,n1,λp hp=>⟨(own p (hs p (gX _ hp))).1,?_⟩⟩
    rw[aC λhm=>n3 p.1 (dM.2 ⟨p,hp,rfl⟩) p.1 hm rfl]
    exact (own p (hs p (gX _ hp))).2
   ·rename_i e;rw[aC e];obtain ⟨q1,q2,q3⟩:=r.bx k b' jO;refine ⟨q1.same (.refl F) (hg k e2) λj hj=>hg j λe=>hk.2 k b' e2 jO (e ▸ hj),q2,λp hp=>⟨(q3 p hp).1,?_⟩⟩
    rw[aC (off e (q3 p hp).2)];exact (q3 p hp).2
 ·have:=(r.fr i o hi).2;rw[aC λhm=> ?_]
  ·exact this
  ·obtain ⟨p,hp,rfl⟩:=dM.1 hm;rw[(own p (hs p (jb _ hp))).2] at this;cases this
 ·rw[aC λhm=> ?_]
  ·exact r.cn i hi
  ·obtain ⟨p,hp,rfl⟩:=dM.1 hm;have:=(own p (hs p (jb _ hp))).1;rw[hi] at this;cases this
open Classical in
def Rel.join (r:Rel F g Y c s T H) {b b1 b2:Bx} {L1:Ow} (hb:lk K s.bs=V b) (hb2:lk K2 s.bs=V b2) (cQ:K≠K2) (h1:eT F g K b1 L1) (hs:∀p∈L1,p∈Y K\/p∈Y K2) (nd:(L1.map (·.1)).Nodup):
  Rel F g (ly Y K L1) (λi=>if i∈L1.map (·.1) then V K else c i) ⟨s.ts,(K,b1)::lp K2 s.bs⟩ T H:=by
 have o1:=(r.bx K b hb).2.2;have o2:=(r.bx K2 b2 hb2).2.2;have own:∀p∈L1,H p.1=V p.2/\(c p.1=V K\/c p.1=V K2):=λp hp=>(hs p hp).elim (λh=>⟨(o1 p h).1,.inl (o1 p h).2⟩) λh=>⟨(o2 p h).1,.inr (o2 p h).2⟩
 refine ⟨r.tm,λk b' jO=> ?_,λi o hi=>⟨(r.fr i o hi).1,?_⟩,λi hi=> ?_⟩
 ·rw[show ({ts:=s.ts,bs:=(K,b1)::lp K2 s.bs}:LS).bs=(K,b1)::lp K2 s.bs from rfl,dy,xA] at jO;unfold ly;split at jO
  ·rename_i e;cases jO;rw[aG e,e];exact ⟨h1,nd,λp hp=>⟨(own p hp).1,aG (dM.2 ⟨p,hp,rfl⟩)⟩⟩
  ·rename_i e;split at jO
   ·cases jO
   ·rename_i e2;rw[aC e];obtain ⟨q1,q2,q3⟩:=r.bx k b' jO;refine ⟨q1,q2,λp hp=>⟨(q3 p hp).1,?_⟩⟩
    rw[aC λhm=> ?_]
    ·exact (q3 p hp).2
    ·obtain ⟨p',Bt,e'⟩:=dM.1 hm;have:=(own p' Bt).2;rw[show p'.1=p.1 from e',(q3 p hp).2] at this;rcases this with h|h
     ·exact e (kR h)
     ·exact e2 (kR h)
 ·have:=(r.fr i o hi).2;rw[aC λhm=> ?_]
  ·exact this
  ·obtain ⟨p,hp,rfl⟩:=dM.1 hm;rcases (own p hp).2 with h|h<;>(rw[h] at this;cases this)
 ·rw[aC λhm=> ?_]
  ·exact r.cn i hi
  ·obtain ⟨p,hp,rfl⟩:=dM.1 hm;have:=(own p hp).1;rw[hi] at this;cases this
end
end Go.bM
end
