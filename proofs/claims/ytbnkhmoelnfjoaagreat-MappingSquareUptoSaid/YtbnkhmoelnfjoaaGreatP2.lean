/- Part. -/
import Derived.Test.YtbnkhmoelnfjoaaGreatP1
import Derived.ProofKit
import Derived.OpenShut
set_option linter.all false
open Option renaming some->V,none->A
open List renaming length->O,replicate->Va,range->DO
open Bool renaming true->I,false->U
open Nat renaming beq->Cz,add->E',ble->D',mul->N',succ->S6,div->Ys
open Go renaming TypeId->Ey,Operand->S',Program->Y',IntKind->UQ,BinOp->Z6
open Decidable renaming decide->A'
open Go.CallsIn renaming mono->Nv
open Go.Lib renaming compareBytes->Hn
open Go.Op renaming bytesLess->Sx
open Go.Extern.BytealgCompare renaming compare->ae0
noncomputable section
namespace Go.bM
open Go.RowKit
variable {P:Y'} {k rt o new:Nat} {svs cs aa:bj} {us:gn} {x v:SV} {e t:Ey} {kw:jQ} {ups:ia} {i:TI}
section
variable {E:Env} {g:Gh} {f:Hf} {w:World}
def aDJ {k:FuncId} (h:RV P k) (ge:jQ) (w:World):(callFunc k ge).run P w= .ok (.enter k ge) w:=by
 let ⟨fn,h1,h2,h3⟩:=h;rcases aei h1 h2 ge w with ⟨_,hc⟩|hc
 .exact absurd hc h3
 .exact hc
def aEs {B C:Nat} (h1:rt<=B) (h2:B<=C) (h3:C<=O svs) (t:Nat):(Dr rt B C svs)[t]? =if t<rt then svs[t]? else if t<rt+(C-B) then svs[t+(B-rt)]? else if t<C then V SV.undef else svs[t]? :=by
 have e:Dr rt B C svs=svs.take rt++((svs.drop B).take (C-B)++(Va (B-rt) SV.undef++svs.drop C)):=rfl;rw[e,tq,dv,fG W]
 by_cases q1:t<rt
 .rw[ax q1,ax q1,eO,ax q1]
 .rw[au q1,au q1,tq,dv,iz,fG W]
  by_cases q2:t<rt+(C-B)
  .rw[ax W,ax q2,eO,ax W,fF]
   congr 1;omega
  .rw[au W,au q2,tq,vz]
   by_cases q3:t<C
   .rw[ax W,ax q3,List.getElem?_replicate,ax W]
   .rw[au W,au q3,fF]
    congr 1;omega
def aEr {B C:Nat} (h1:rt<=B) (h2:B<=C) (h3:C<=O svs):O (Dr rt B C svs)=O svs:=by
 show O (svs.take rt++((svs.drop B).take (C-B)++(Va (B-rt) SV.undef++svs.drop C)))=_;simp;omega
def ow.three {y z:SV} (h:ow g us [x,y,z]):∃a b c,us= [a,b,c]/\VR g a x/\VR g b y/\VR g c z:=by
 cases h with|cons h1 ht=>cases ht with|cons h2 ht=>cases ht with|cons h3 ht=>cases ht;exact ⟨_,_,_,rfl,h1,h2,h3⟩
def Cells.at {id b:Nat} (h:Cells g w id b o e cs):∃kw:jQ,w.heap[b]? =V (.cells kw e (0,0))/\o+g.lim id<=kw.size/\o+O cs<=kw.size/\∀(t:Nat) (x:SV),cs[t]? =V x->∃v,kw[o+t]? =V v/\v.oneCell'=I/\VR g v x:=by
 let ⟨⟨kw,m1,m0,vs,m2,m3⟩,m4⟩:=h;refine ⟨kw,m1,m0,?_,λt x hx=> ?_⟩
 .have hl:=m2.length;rcases IF (O cs) with q|q
  .omega
  .have:=m3 (O cs-1) _ (bJ W)
   have:=(pq.1 this).1;omega
 .let ⟨v,v1,v2,v3⟩:=m2.get hx;exact ⟨v,m3 t v v1,v2,v3⟩
def iR.ayE (h4:∀(t:Nat) (x:SV),cs[t]? =V x->∃v,kw[o+t]? =V v/\v.oneCell'=I/\VR g v x):∃vs,iR g vs cs/\∀(j:Nat) (v:Value),vs[j]? =V v->kw[o+j]? =V v:=by
 refine ⟨(kw.toList.drop o).take (O cs),iR.mk ?_ λj v x hv hx=> ?_,λj v hv=> ?_⟩
 .rcases IF (O cs) with q|q
  .rw[q];simp
  .let ⟨v,a,_,_⟩:=h4 (O cs-1) _ (bJ W)
   have:=(pq.1 a).1;simp;omega
 .let ⟨v',a,b,c⟩:=h4 j x hx;have hj:=(bk.1 hx).1;rw[eO,ax hj,fF,ng,a] at hv;cases hv;exact ⟨b,c⟩
 .rw[eO] at hv;split at hv
  .rw[fF,ng] at hv;exact hv
  .cases hv
def Cells.mk' {id b:Nat} (h1:w.heap[b]? =V (.cells kw e (0,0))) (h2:o+g.lim id<=kw.size) (h3:g.et id=e) (h4:∀(t:Nat) (x:SV),cs[t]? =V x->∃v,kw[o+t]? =V v/\v.oneCell'=I/\VR g v x):Cells g w id b o e cs:=by
 let ⟨vs,a,b⟩:=iR.ayE h4;exact ⟨⟨kw,h1,h2,vs,a,b⟩,h3⟩
def aas:∀{l:bj} {xs:List Int},Ll l=V xs->l=fV xs
 | [],xs,h=>by cases h;rfl
 |v::l,xs,h=>by
  let ⟨x,r,h1,h2,h3⟩:=bV (show cq (NO v) (Ll l) (λx r=>V (x::r))=V xs from h)
  cases h3;rw[aas h2];unfold NO at h1;split at h1
  .cases h1;rfl
  .cases h1
def Oy:∀xs:List Int,O (mO xs)<=O xs
 | []=>cM _
 | [x]=>cM _
 |x::y::l=>by
  have:=Oy (y::l);show O (if x=y then mO (y::l) else x::mO (y::l))<=_
  split
  .exact Nat.le_succ_of_le this
  .exact Nat.succ_le_succ this
def aiJ (x:Int):∀ys:List Int,O (Dm x ys)=O ys+1
 | []=>rfl
 |y::ys=>by
  unfold Dm;split
  .rfl
  .rw[l7,aiJ x ys];rfl
def abM:∀xs:List Int,O (dJ xs)=O xs
 | []=>rfl
 |x::xs=>by rw[dJ,aiJ,abM xs];rfl
def aAh (b:Bool) (xs:List Int):O (D4 b xs)=O xs:=by
 cases b
 .have:=Oy xs;show O (mO xs++Va (O xs-O (mO xs)) 0)=_;rw[gS,vz];omega
 .exact abM xs
def ow.one (h:ow g us [x]):∃a,us= [a]/\VR g a x:=by
 cases h with|cons h1 ht=>cases ht;exact ⟨_,rfl,h1⟩
def aAg {z:Bool} (hP:VL E.P k z) (h:HR g f w) (mK:ow g us aa) (ho:adA z f aa=V (v,ups)) (m:Nat):
  RV E.P k/\CallsIn Fence.wide m E.P k us.toArray w λe w'=>∃r g',e= .returned r/\hZ g f w v ups new r g' w':=by
 let ⟨FI,h0,h1⟩:=hP;refine ⟨FI,?_⟩;unfold adA at ho;split at ho
 .cases ho;obtain ⟨a,rfl,q⟩:=mK.one;cases q;refine Nv (h0 m w A 0) ?_;rintro e w' ⟨rfl,e1,e2,e3,e4⟩;have hs:VI w w':=⟨e2,e3,e4,by rw[e1];exact cM _,λb _=>by rw[e1]⟩
  refine ⟨_,g,rfl,?_,h.grow hs.size hs.heap,⟨hs.os,hs.tape,hs.output,hs.size,.refl _,λb hb _=>hs.heap b hb,λb hb hm=>hm⟩,λ_ _=>rfl,λ_=>rfl⟩
  cases z
  .exact .bY
  .exact .dh .nil
 .rename_i id off n cp;rw[cx] at ho;split at ho
  .rename_i hn0;have hn0:n=0:=(f9 _ _).1 hn0;subst hn0;cases ho;obtain ⟨a,rfl,q⟩:=mK.one;cases q with
   | @sl _ _ _ b o c _ hρ wG jL wH=>
   refine Nv (h0 m w (V ⟨b,o+off,A⟩) c) ?_;rintro e w' ⟨rfl,e1,e2,e3,e4⟩;have hs:VI w w':=⟨e2,e3,e4,by rw[e1];exact cM _,λb _=>by rw[e1]⟩
   refine ⟨_,g,rfl,?_,h.grow hs.size hs.heap,⟨hs.os,hs.tape,hs.output,hs.size,.refl _,λb hb _=>hs.heap b hb,λb hb hm=>hm⟩,λ_ _=>rfl,λ_=>rfl⟩
   cases z
   .exact .sl hρ (rY _) jL wH
   .exact .dh .nil
  let ⟨p,hp,ho⟩:=ak ho;let ⟨xs,hx,ho⟩:=ak ho;let ⟨hc,ho⟩:=bf ho;simp only[bI] at hc;let ⟨c0,c1,c2⟩:=hc;have c0:1<=n:=(bO _ _).1 c0;have c1:off+n<=O p.2:=(bO _ _).1 c1;have c2:n<=4294967295:=(bO _ _).1 c2;cases ho;have hf:=sY hp;have hxs:=aas hx;have hn:O xs=n:=by
   have:=bH O hxs;simp[fV] at this;omega
  subst hn;obtain ⟨a,rfl,q⟩:=mK.one;cases q with
  | @sl _ _ _ b o c _ hρ wG jL wH=>
  have pY:Cells g w id b o p.1 p.2:=(h.at hf hρ).2;let ⟨kw,m1,m0,ml,m2⟩:=pY.at;have nO:∀t x,xs[t]? =V x->p.2[off+t]? =V (.int .i64 (.lit x)):=λt x qG=>by
   have hl:=(bk.1 qG).1;have e:=bH (λl=>l[t]?) hxs
   rw[eO,ax hl,fF] at e;rw[e,fV,my,qG];rfl
  refine Nv (h1 m w b (o+off) c xs kw p.1 m1 W c2 wG λt x qG=> ?_) ?_
  .let ⟨u,u1,_,u3⟩:=m2 _ _ (nO t x qG);cases u3 with|int _ _ e=>
   have e:_=x:=e;subst e;rw[il];exact u1
  rintro e w' ⟨rfl,w1,kb,hw,hs,oG,r1,r2⟩;have hgl:=aAh z xs;have ajb:Cells g w1 id b o p.1 (p.2.take off++(fV (D4 z xs)++p.2.drop (off+O xs))):=Cells.mk' hw.heap (by rw[oG];exact m0) pY.et λt x qG=>by
   rw[tq,dv,fG W] at qG
   split at qG
   .rename_i ht;rw[eO,ax ht] at qG;rw[r1 (o+t) (.inl W)];exact m2 t x qG
   .rename_i ht;rw[tq,fV,ku,hgl] at qG;split at qG
    .rename_i ht2;rw[my] at qG;cases hy:(D4 z xs)[t-off]? with
     |none=>rw[hy] at qG;cases qG
     |some y=>
      rw[hy] at qG;cases qG;have:=r2 _ _ hy;rw[show o+off+(t-off)=o+t by omega] at this
      exact ⟨_,this,rfl,.int _ _ rfl⟩
    .rename_i ht2;rw[fF] at qG;rw[r1 (o+t) (.inr W)]
     have:=m2 _ x qG;rw[show o+t=o+(off+O xs+(t-off-O xs)) by omega]
     exact this
  let ⟨t1,t2⟩:=h.write (o':=.cells p.1 _) hf hρ hw.size hw.MN ajb hw.os hw.tape hw.output;have t3:=t1.grow hs.size hs.heap;refine ⟨_,g,rfl,?_,t3,?_,λ_ _=>rfl,λ_=>rfl⟩
  .cases z
   .have:=Oy xs;exact .sl hρ (by show O (mO xs)<=c;omega) jL wH
   .exact .dh .nil
  .exact t2.trans ⟨hs.os,hs.tape,hs.output,hs.size,.refl _,λb hb _=>hs.heap b hb,λb hb hm=>hm⟩
 .cases ho
def ayh (hE:fU E g) {c:Nat} (hP:L4 E k c) (h:HR g f w) (hn:g.ρ new=A) (mK:ow g us aa) (ho:xh E c f new aa=V (v,ups)) (m:Nat):
  RV E.P k/\CallsIn Fence.wide m E.P k us.toArray w λe w'=>∃r g',e= .returned r/\hZ g f w v ups new r g' w':=by
 unfold xh at ho;rw[cx] at ho;split at ho
 .rename_i aDD;exact aAg (hP.1 ((bO _ _).1 aDD)) h mK ho m
 rename_i aDD;let ⟨ie,pi,ho⟩:=ak ho;let ⟨hd,hi⟩:=hP.2 (by
  by_cases hc:c<1048576
  .exact hc
  .exact absurd ((bO _ _).2 W) aDD) ie pi
 rw[cx] at ho;split at ho
 .rename_i h0;let ⟨FI,hd⟩:=hd ((f9 _ _).1 h0);refine ⟨FI,?_⟩;unfold YM at ho;split at ho;rotate_left
  .cases ho
  rename_i id off n cp a b _;let ⟨i,j,p,ha,hb,hp,ho⟩:=Ed ho;let ⟨hc,ho⟩:=bf ho;simp only[bI] at hc;let ⟨c1,c2,c3⟩:=hc;have c1:i<j:=(bO _ _).1 c1;have c2:j<=n:=(bO _ _).1 c2;have c3:off+n*ie.size<=O p.2:=(bO _ _).1 c3;cases ho;obtain rfl:=GV ha;obtain rfl:=GV hb;obtain ⟨x,y,z,rfl,q1,q2,q3⟩:=mK.three;have hf:=sY hp;cases q2 with|int _ _ e2=>cases q3 with|int _ _ e3=>
  have e2:_=(i:Int):=e2;have e3:_=(j:Int):=e3;subst e2;subst e3;cases q1 with
  | @sl _ _ _ b o c _ hρ wG jL wH=>
  have pY:Cells g w id b o p.1 p.2:=(h.at hf hρ).2;let ⟨kw,m1,m0,ml,m2⟩:=pY.at;have hA:i*ie.size<=j*ie.size:=jv _ W
  have hB:j*ie.size<=n*ie.size:=jv _ c2;refine Nv (hd m w b (o+off) n c i j kw p.1 m1 W (λt ht u hu=> ?_) c1 c2 wG) ?_
  .let ⟨u',u1,u2,_⟩:=m2 (off+t) _ (bJ W)
   rw[<-il,hu] at u1;cases u1;exact u2
  rintro e w' ⟨rfl,kb,hw,hs,r1,r2,r3⟩;have ajb:Cells g w' id b o p.1 (Dr (off+i*ie.size) (off+j*ie.size) (off+n*ie.size) p.2):=Cells.mk' hw.heap (by rw[hs];exact m0) pY.et λt x hx=>by
   rw[aEs W W W] at hx
   split at hx
   .rw[r1 (o+t) (.inl W)];exact m2 t x hx
   .split at hx
    .have:=r2 (t-(off+i*ie.size)) W
     rw[show o+off+i*ie.size+(t-(off+i*ie.size))=o+t by omega,show o+off+j*ie.size+(t-(off+i*ie.size))=o+(t+(off+j*ie.size-(off+i*ie.size))) by omega] at this
     rw[this];exact m2 _ x hx
    .split at hx
     .cases hx;let ⟨u,u1,u2⟩:=r3 (t-(off+i*ie.size+(n*ie.size-j*ie.size))) W
      rw[show o+off+i*ie.size+(n*ie.size-j*ie.size)+(t-(off+i*ie.size+(n*ie.size-j*ie.size)))=o+t by omega] at u1
      exact ⟨u,u1,u2,.undef u⟩
     .rw[r1 (o+t) (.inr W)];exact m2 t x hx
  let ⟨t1,t2⟩:=h.write (o':=.cells p.1 _) hf hρ hw.size hw.MN ajb hw.os hw.tape hw.output;exact ⟨_,g,rfl,.sl hρ (by show n-(j-i)<=c;omega) jL wH,t1,t2,λ_ _=>rfl,λ_=>rfl⟩
 .rename_i h0;let ⟨FI,hi⟩:=hi (λe=>h0 ((f9 _ _).2 e))
  refine ⟨FI,?_⟩;unfold Z2 at ho;split at ho;rotate_left
  .cases ho
  rename_i id off n cp a G5 yv q c2 _;let ⟨i,p,p2,ha,hp,N3,ho⟩:=Ed ho;let ⟨hc,ho⟩:=bf ho;simp only[bI] at hc;let ⟨c1,c3,c4,c5,c6,c7,c8,c9,c10⟩:=hc;have c1:i<=n:=(bO _ _).1 c1;have c3:1<=q:=(bO _ _).1 c3;have c4:n<=1000000:=(bO _ _).1 c4;have c5:q<=1000000:=(bO _ _).1 c5;have c6:id≠G5:=λe=>by rw[(f9 _ _).2 e] at c6;cases c6
  have c7:p.1=Ys c 2:=(f9 _ _).1 c7;have c8:off+n*ie.size<=O p.2:=(bO _ _).1 c8;have c9:yv+q*ie.size<=O p2.2:=(bO _ _).1 c9;cases ho;obtain rfl:=GV ha;obtain ⟨x,y,z,rfl,q1,q2,q3⟩:=mK.three;have hf:=sY hp;have hf2:=sY N3;cases q2 with|int _ _ e2=>
  have e2:_=(i:Int):=e2;subst e2;cases q1 with
  | @sl _ _ _ b o cc _ hρ wG jL wH=>
  cases q3 with
  | @sl _ _ _ b2 o2 cc2 _ hρ2 hnc2 aHo hlim2=>
  have pY:Cells g w id b o p.1 p.2:=(h.at hf hρ).2;have aML:Cells g w G5 b2 o2 p2.1 p2.2:=(h.at hf2 hρ2).2;let ⟨kw,m1,m0,ml,m2⟩:=pY.at;let ⟨YZ,n1,n0,nl,n2⟩:=aML.at;have hbb:b2≠b:=λe=>c6 (h.inj id G5 _ _ b o o2 hf hf2 hρ (by rw[<-e];exact hρ2))
  have oM:o+off+cc*ie.size<=kw.size:=by
   cases cp with
   |k c0=>
    have:=jL c0 rfl;subst this;have:off+cc*ie.size<=O p.2:=(bO _ _).1 c10;omega
   |u e0=>
    let ⟨l1,l2⟩:=wH e0 rfl;have:g.sz e0=ie.size:=by rw[<-l1,pY.et,c7];exact hE.size pi
    rw[this] at l2;omega
  refine Nv (hi m w b (o+off) n cc i b2 (o2+yv) q cc2 kw YZ p2.1 (by rw[m1,c7];rfl) n1 hbb oM W (λt ht u hu=> ?_) (λt ht u hu=> ?_) wG c4 c3 c5 c1) ?_
  .let ⟨u',u1,u2,_⟩:=m2 (off+t) _ (bJ W)
   rw[<-il,hu] at u1;cases u1;exact u2
  .let ⟨u',u1,u2,_⟩:=n2 (yv+t) _ (bJ W)
   rw[<-il,hu] at u1;cases u1;exact u2
  rintro e w' ⟨b',o',c',kb,rfl,hnc',hsz',nO,hw⟩;have lm:=Gh.Jn (g:=g) (p:=(b',o')) (l:=c'*ie.size) (e:=Ys c 2) hn;have hxl:O ((p.2.drop off).take (n*ie.size))=n*ie.size:=by simp;omega
  have hyl:O ((p2.2.drop yv).take (q*ie.size))=q*ie.size:=by simp;omega
  have hXl:O ((kw.toList.drop (o+off)).take (n*ie.size))=n*ie.size:=by simp;omega
  have hYl:O ((YZ.toList.drop (o2+yv)).take (q*ie.size))=q*ie.size:=by simp;omega
  have jJ:i*ie.size<=n*ie.size:=jv _ c1;have aHm:∀(t:Nat) (x:SV),(Dn ((p.2.drop off).take (n*ie.size)) (i*ie.size) ((p2.2.drop yv).take (q*ie.size)))[t]? =V x->∃v,kb[o'+t]? =V v/\v.oneCell'=I/\VR g v x:=λt x hx=>by
   have hl:t<n*ie.size+q*ie.size:=by
    have:=(bk.1 hx).1;simp[Dn] at this;omega
   rw[nO t (by rw[gz];exact hl)]
   show ∃v,((((kw.toList.drop (o+off)).take (n*ie.size)).take (i*ie.size))++(((YZ.toList.drop (o2+yv)).take (q*ie.size))++(((kw.toList.drop (o+off)).take (n*ie.size)).drop (i*ie.size))))[t]? =V v/\_;have hx:((((p.2.drop off).take (n*ie.size)).take (i*ie.size))++(((p2.2.drop yv).take (q*ie.size))++(((p.2.drop off).take (n*ie.size)).drop (i*ie.size))))[t]? =V x:=hx;have src:∀s,s<n*ie.size->∀x,((p.2.drop off).take (n*ie.size))[s]? =V x->∃v,((kw.toList.drop (o+off)).take (n*ie.size))[s]? =V v/\v.oneCell'=I/\VR g v x:=λs hs x hx=>by
    rw[eO,ax hs,fF] at hx;let ⟨v,a,b,c⟩:=m2 _ x hx;exact ⟨v,by rw[eO,ax hs,fF,ng,il];exact a,b,c⟩
   have src2:∀s,s<q*ie.size->∀x,((p2.2.drop yv).take (q*ie.size))[s]? =V x->∃v,((YZ.toList.drop (o2+yv)).take (q*ie.size))[s]? =V v/\v.oneCell'=I/\VR g v x:=λs hs x hx=>by
    rw[eO,ax hs,fF] at hx;let ⟨v,a,b,c⟩:=n2 _ x hx;exact ⟨v,by rw[eO,ax hs,fF,ng,il];exact a,b,c⟩
   rw[tq] at hx ⊢;rw[dv,hxl,fG jJ] at hx;rw[dv,hXl,fG jJ];by_cases q1:t<i*ie.size
   .rw[ax q1,eO,ax q1] at hx;rw[ax q1,eO,ax q1];exact src t W x hx
   .rw[au q1,tq,hyl] at hx;rw[au q1,tq,hYl];by_cases q2:t-i*ie.size<q*ie.size
    .rw[ax q2] at hx;rw[ax q2];exact src2 _ q2 x hx
    .rw[au q2,fF] at hx;rw[au q2,fF];exact src _ W x hx
  have Jq:∀{h3:w'.heap[b']? =V (.cells kb (Ys c 2) (0,0))},OR (g.bind new (b',o') (c'*ie.size) (Ys c 2)) w' new b' o' (.cells (Ys c 2) (Dn ((p.2.drop off).take (n*ie.size)) (i*ie.size) ((p2.2.drop yv).take (q*ie.size)))):=λ{h3}=>
   Cells.mk' h3 (by rw[Gh.BI];exact hsz') (Gh.EM _ _ _ _ _) λt x hx=>by
    let ⟨v,a,b,c⟩:=aHm t x hx;exact ⟨v,a,b,c.mono lm⟩
  have SR:VR (g.bind new (b',o') (c'*ie.size) (Ys c 2)) (.slice (V ⟨b',o',A⟩) (n+q) c') (.sl new 0 (n+q) (.u (Ys c 2))):=
   .sl (id:=new) (off:=0) (o:=o') (b:=b') (cap:=.u (Ys c 2)) (Gh.kG _ _ _ _ _) hnc' (λk hk=>by cases hk) (λe' he=>by
    cases he;refine ⟨Gh.EM _ _ _ _ _,?_⟩;rw[Gh.BI];show 0+c'*g.sz (Ys c 2)<=_;rw[hE.size pi];omega)
  rcases hw with ⟨rfl,rfl,hw⟩|⟨rfl,rfl,hw⟩
  .let ⟨t1,t2⟩:=h.rename (o':=.cells (Ys c 2) (Dn ((p.2.drop off).take (n*ie.size)) (i*ie.size) ((p2.2.drop yv).take (q*ie.size)))) hn hf hρ hw.size hw.MN (Jq (h3:=hw.heap)) hw.os hw.tape hw.output;exact ⟨_,_,rfl,SR,t1,t2,λk hk=>Gh.nC _ _ _ _ hk,λFE=>by cases FE⟩
  .let ⟨k1,k2⟩:=h.kill id;let ⟨vs,a1,a2⟩:=iR.ayE aHm;have vV:w'=World.alloc {w' with heap:=w.heap} (.cells kb (Ys c 2)):=by
    show w'={w' with heap:=w.heap.push (.cells kb (c / 2) (0,0))}
    rw[<-hw.heap]
   exact ⟨_,_,rfl,(k1.row hn (w0:={w' with heap:=w.heap}) ⟨rfl,hw.os,hw.tape,hw.output⟩ vV a1 (λj v hv=>by rw[<-cN j];exact a2 j v hv) W SR).kill h⟩
section
variable {τ:Nat->Nat} {D:Nat->Prop} [DecidablePred D] {S:bQ}
end
section
variable {τ:Nat->Nat}
end
def aci (a b:xN):Hn a.data.toList b.data.toList=OD a b:=by
 have key:∀(l m:List UInt8),Hn l m=if EL l m=I then -1 else if vq l m=I then 0 else 1:=by
  intro l;induction l with
  |nil=>intro m;cases m<;>simp[Hn,EL,vq]
  |cons x l ih=>
   intro m;cases m with
   |nil=>simp[Hn,EL,vq]
   |cons y m=>
    unfold Hn EL vq;rw[ih m,cx,cx,ble_eq,beq_eq];have h1:(x<y)↔x.toNat+1<=y.toNat:=by rw[UInt8.lt_iff_toNat_lt];omega
    have h2:(y<x)↔y.toNat<x.toNat:=UInt8.lt_iff_toNat_lt;by_cases NY:x<y
    .simp[NY,h1.1 NY]
    .by_cases hyx:y<x
     .have a1:¬(x.toNat+1<=y.toNat):=λh=>NY (h1.2 h)
      have a2:¬(x.toNat=y.toNat):=λh=>by have:=h2.1 hyx;omega
      simp[NY,hyx,a1,a2]
     .have a1:¬(x.toNat+1<=y.toNat):=λh=>NY (h1.2 h)
      have a3:¬(y.toNat<x.toNat):=λh=>hyx (h2.2 h)
      have a2:x.toNat=y.toNat:=by omega
      have a4:¬(y.toNat+1<=y.toNat):=by omega
      simp[NY,hyx,a2,a4]
 rw[key];unfold OD;rw[cx,cx]
end
section
variable {E:Env} {g:Gh} {f:Hf} {w:World}
def gh0 (P:Y') (η:Nat->Int):Gh:=⟨η,P.cellsOf,λ_=>A,λ_=>0,λ_=>0,λ_=>A⟩
def uS {Y:Type} (Q:Nat->Y->Prop):Tr Y->(Nat->Nat)->Prop
 | .nil,_=>True
 | .node l v r,Z=>(match v with|none=>True|some x=>Q (Z 0) x)/\uS Q l (λj=>Z (2*j+1))/\uS Q r (λj=>Z (2*j+2))
def uS.get {Y:Type} {Q:Nat->Y->Prop}:∀{t:Tr Y} {Z:Nat->Nat},uS Q t Z->∀i x,t.get i=V x->Q (Z i) x
 | .nil,_,_,i,x,h=>by cases h
 | .node l v r,Z,⟨h1,h2,h3⟩,i,x,h=>by
  rw[Tr.FT] at h;split at h
  .rename_i e;subst e;subst h;exact h1
  .split at h
   .rename_i e1 e2;have:=uS.get h2 _ x h;have e:2*(i / 2)+1=i:=by omega
    simp only[e] at this;exact this
   .rename_i e1 e2;have:=uS.get h3 _ x h;have e:2*(i / 2-1)+2=i:=by omega
    simp only[e] at this;exact this
def Yu:TypeDesc->UD
 | .bool=>.bool
 | .int k=>.int k
 | .string=>.string
 | .pointer _=>.pointer
 | .slice e=>.slice e
 | .array n e=>.array n e
 | .map k e=>.map k e
 | .struct fs=>.struct (fs.toList.map λf=>FL.mk f.type f.offset (!(f.name== "_")))
 | .func _ _ _=>.func
 | .interface _=>.interface
 |_=>.other
def U9 (P:Y'):List Field->Bool
 | []=>I
 |f::fs=>(P.info? f.type).isSome&&U9 P fs
def aTT (P:Y'):TypeDesc->Bool
 | .struct fs=>U9 P fs.toList
 | .bool| .int _| .string| .pointer _| .slice _| .array _ _| .map _ _| .func _ _ _| .interface _=>I
 |_=>U
def VG:gn->Bool
 | []=>I
 |v::vs=>v.oneCell'&&VG vs
def aiE:Value->Bool
 | .agg _=>I
 |_=>U
def aFo (agg:Bool) (size:Nat) (z:Value):Bool:=VG z.cells.toList&&aT agg (aiE z&&Cz (O z.cells.toList) size) z.oneCell'
def Z3 (P:Y') (t:Ey):G TI:=
 cq (P.underlying t) (P.info? t) λd f=>aA f.zero λz=>aT (aTT P d&&aFo (oj (Yu d)) f.size z) (V ⟨Yu d,f.size,f.bytes,uO z.cells.toList,f.comparable⟩) A
def abi {P:Y'}:∀{fs:List Field},U9 P fs=I->∀f∈fs,(P.info? f.type).isSome=I
 | [],_,f,hf=>by simp at hf
 |x::fs,h,f,hf=>by
  unfold U9 at h;rw[bI] at h;rcases cU.1 hf with rfl|hf
  .exact h.1
  .exact abi h.2 f hf
def aaF (g:Gh):∀{vs:gn},VG vs=I->iR g vs (uO vs)
 | [],_=>.nil
 |v::vs,h=>by
  unfold VG at h;rw[bI] at h;exact .cons h.1 (Ae g v) (aaF g h.2)
def ab3:∀(vs:gn),O (uO vs)=O vs
 | []=>rfl
 |v::vs=>by show O (xp v::uO vs)=_;simp[ab3 vs]
def awO (h:Z3 P t=V i):Gd P t i:=by
 let ⟨d,fi,hd,hf,h⟩:=bV h;let ⟨z,hz,h⟩:=ak h;let ⟨hc,h⟩:=bf h;cases h;rw[bI] at hc;let ⟨hdb,DH⟩:=hc;unfold aFo at DH;rw[bI] at DH;let ⟨ha,DH⟩:=DH;refine ⟨?_,fi,z,hf,rfl,rfl,rfl,hz,⟨λg=>aaF g ha,λFK=> ?_,λFK=> ?_⟩,λFK=> ?_⟩
 .show GC P t (Yu d);cases d<;>first
   |exact hd
   |exact ⟨_,hd⟩
   |exact ⟨_,_,_,hd⟩
   |(
    refine ⟨_,hd,?_,abi hdb⟩
    refine EV λf _=> ?_
    by_cases hn:f.name= "_" <;>simp[hn])
   |(cases hdb;done)
 .have FK:oj (Yu d)=I:=FK;rw[FK] at DH;have DH:(aiE z&&Cz (O z.cells.toList) fi.size)=I:=DH;rw[bI] at DH;cases z<;>first|exact ⟨_,rfl⟩|(cases DH.1;done)
 .have FK:oj (Yu d)=U:=FK;rw[FK] at DH;exact DH
 .have FK:oj (Yu d)=I:=FK;rw[FK] at DH;have DH:(aiE z&&Cz (O z.cells.toList) fi.size)=I:=DH;rw[bI] at DH;show O (uO z.cells.toList)=fi.size;rw[ab3];exact (f9 _ _).1 DH.2
end
end Go.bM
namespace Go.bM
variable {done:List (Nat×SV)} {Z4:List (Nat×Nat)} {memo stop:bQ} {η:Nat->Int}
section
def Jg (fn:Func):Bool:=fn.body.isSome|| !(fn.name== "internal/bytealg.abigen_runtime_cmpstring")
def aXm (P:Y') (k:Nat) (fn:Func):Prop:=P.funcs[k]? =V fn/\asY fn=I/\(Jg fn=I\/(Extern.findNext fn=A/\Extern.find fn=V ae0))
def aXk (P:Y') (t:Nat) (i:TI):Prop:=Z3 P t=V i
structure adW (P:Y') (ty:Tr TI) (fn:Tr Func):Prop where
 ty:uS (aXk P) ty id
 fn:uS (aXm P) fn id
 mix:P.follows .mixedOrders=I
variable {P:Y'} {ty:Tr TI} {fn:Tr Func}
def adW.aTR (h:adW P ty fn) {lt eq:List (SI×SI×Bool)} {join:bQ} (cT:∀a b r,(a,b,r)∈lt->A' (a.ev η<b.ev η)=r) (heq:∀a b r,(a,b,r)∈eq->A' (a.ev η=b.ev η)=r):
  fU ⟨P,ty,fn,lt,eq,done,join,Z4,memo,stop⟩ (gh0 P η):=
 ⟨λt i hi=>awO (uS.get h.ty t i hi),λf x hx=>(uS.get h.fn f x hx).1,cT,heq,h.mix,λ_=>rfl⟩
end
end Go.bM
namespace Go.bM
open Go.RowKit

end Go.bM
namespace Go.bM
variable {P:Y'} {fe:Func}
def alt {Y:Type} (l:List Y):Bool->List Y:= @List.rec Y (λ_=>Bool->List Y) (λ_=> []) (λx _ ih b=>aT b (x::ih U) (ih I)) l
def SY {Y:Type} (d:Nat):List (G Y)->Tr Y:= @Nat.rec (λ_=>List (G Y)->Tr Y) (λ_=>.nil) (λ_ ih l=> @List.rec (G Y) (λ_=>Tr Y) .nil (λx xs _=>.node (ih (alt xs I)) x (ih (alt xs U))) l) d
def QD {Y:Type}:∀(l:List Y) (j:Nat),(alt l I)[j]? =l[2*j]? /\(alt l U)[j]? =l[2*j+1]?
 | [],j=>⟨by simp[alt],by simp[alt]⟩
 |x::l,j=>by
  have h1:alt (x::l) I=x::alt l U:=rfl;have h2:alt (x::l) U=alt l I:=rfl;rw[h1,h2];constructor
  .cases j with
   |zero=>rfl
   |succ j=>rw[uW,(QD l j).2,show 2*(j+1)=(2*j+1)+1 by omega,uW]
  .rw[(QD l j).1,uW]
def KS {Y:Type} {Q:Nat->Y->Prop}:∀(d:Nat) (l:List (G Y)) (Z:Nat->Nat),(∀i x,l[i]? =V (V x)->Q (Z i) x)->uS Q (SY d l) Z
 |0,_,_,_=>trivial
 |d+1,[],_,_=>trivial
 |d+1,x::xs,Z,H=>by
  show uS Q (.node (SY d (alt xs I)) x (SY d (alt xs U))) Z;unfold uS;refine ⟨?_,KS d _ _ λi y h=> ?_,KS d _ _ λi y h=> ?_⟩
  .cases x with
   |none=>trivial
   |some x=>exact H 0 x rfl
  .rw[(QD xs i).1] at h;exact H (2*i+1) y (by rw[uW];exact h)
  .rw[(QD xs i).2] at h;exact H (2*i+2) y (by rw[show 2*i+2=(2*i+1)+1 from rfl,uW];exact h)
def aFs (P:Y') (n:Nat):Tr TI:=SY 10 ((DO n).map (Z3 P))
def aHq (P:Y'):Tr Func:=SY 10 (P.funcs.toList.map V)
def aRm (e:Nat) (l:List Bool):Bool:= @List.rec Bool (λ_=>Nat->Bool) (λ_=>I) (λb _ ih k=>aT (b||Cz k e) (ih (k+1)) U) l 0
def aaE {e:Nat}:∀(l:List Bool) (k i:Nat),(@List.rec Bool (λ_=>Nat->Bool) (λ_=>I) (λb _ ih k=>aT (b||Cz k e) (ih (k+1)) U) l k)=I->l[i]? =V U->k+i=e
 | [],k,i,_,h=>by simp at h
 |b::l,k,i,h,hi=>by
  have h:aT (b||Cz k e) (@List.rec Bool (λ_=>Nat->Bool) (λ_=>I) (λb _ ih k=>aT (b||Cz k e) (ih (k+1)) U) l (k+1)) U=I:=h
  cases i with
  |zero=>
   have:b=U:=by simpa using hi
   subst this;cases hk:Cz k e with
   |true=>exact Nat.eq_of_beq_eq_true hk
   |false=>rw[hk] at h;cases h
  |succ i=>
   cases hb:(b||Cz k e) with
   |false=>rw[hb] at h;cases h
   |true=>
    rw[hb] at h;have:=aaE l (k+1) i h (by simpa using hi)
    omega
def aLE (n e:Nat) (h0:(P.funcs.toList.all λf=>asY f)=I) (h1:aRm e (P.funcs.toList.map Jg)=I) (he:P.funcs[e]? =V fe) (h2:Extern.findNext fe=A) (h3:Extern.find fe=V ae0) (hm:P.follows .mixedOrders=I):adW P (aFs P n) (aHq P):=by
 refine ⟨KS _ _ _ λi x h=> ?_,KS _ _ _ λi x h=> ?_,hm⟩
 .rw[my] at h;cases hr:(DO n)[i]? with
  |none=>rw[hr] at h;cases h
  |some j=>
   rw[hr] at h;have hj:Z3 P j=V x:=by simpa using h
   have:=bk.1 hr;let ⟨h1,h2⟩:=this;have e:i=j:=by simpa using h2
   subst e;exact hj
 .rw[my] at h;cases hr:P.funcs.toList[i]? with
  |none=>rw[hr] at h;cases h
  |some f=>
   rw[hr] at h;have hf:f=x:=by simpa using h
   subst hf;have hm:f∈P.funcs.toList:=bF hr;have hp:P.funcs[i]? =V f:=by simpa using hr
   refine ⟨hp,jR.1 h0 f hm,?_⟩;cases hb:Jg f with
   |true=>exact .inl rfl
   |false=>
    have:=aaE (e:=e) (P.funcs.toList.map Jg) 0 i h1 (by rw[my,hr];simp[hb])
    have ei:i=e:=by omega
    subst ei;rw[hp] at he;cases he;exact .inr ⟨h2,h3⟩
end Go.bM
section
namespace Go.bM
open Go.RowKit
variable {x y c:Code} {i6:fD} {i new nZ nx:Nat} {o:Oper} {v:SV} {us:ia} {k:FuncId} {fn:Func} {H:Hf}
structure MS where
 T:Tf
 H:Hf
 nx:Nat
structure Now (E:Env) (nt:Nat) (g:Gh) (m:MS) (a:Act) (w:World):Prop where
 env:fU E g
 fr:FR g nt m.T a.tmps
 hr:HR g m.H w
 fresh:∀x,m.nx<=x->g.ρ x=A
structure yK (g:Gh) (m:MS) (w:World) (a:Act) (g':Gh) (m':MS) (w':World) (a':Act):Prop where
 fr:Fr g m.H w g' m'.H w'
 df:a'.defers=a.defers
 ro:∀x,x<m.nx->g'.ρ x=g.ρ x
 nx:m.nx<=m'.nx
variable {E:Env} {nt:Nat} {g g1 g2:Gh} {m m1 m2:MS} {a a1 a2:Act} {w w1 w2:World} {e:Ex}
def yK.refl:yK g m w a g m w a:=⟨Fr.refl _ _ _,rfl,λ_ _=>rfl,cM _⟩
def yK.trans (h:yK g m w a g1 m1 w1 a1) (k:yK g1 m1 w1 a1 g2 m2 w2 a2):yK g m w a g2 m2 w2 a2:=
 ⟨h.fr.trans k.fr,k.df.trans h.df,λx hx=>(k.ro x (Ch hx h.nx)).trans (h.ro x hx),lO h.nx k.nx⟩
def gE (E:Env) (nt:Nat) (c:Code) (m:MS) (e:Ex) (m':MS):Prop:=codeOk c=I->∀(ro:cC) (k:Nat) (g:Gh) (a:Act) (w:World) (Q:Exit->Act->World->Prop),Now E nt g m a w->
 (∀g' a' w' x,ExR g' e x->Now E nt g' m' a' w'->yK g m w a g' m' w' a'->Q x a' w')->wpX (xz ro) k E.P c Q a w
namespace gE
def skip:gE E nt .skip m .normal m:=λ_ _ _ _ _ _ _ n h=>wpIn_skip (h _ _ _ _ .normal n .refl)
def exit {id:Nat}:gE E nt (.exit id) m (.exit id) m:=λ_ _ _ _ _ _ _ n h=>wpIn_exit (h _ _ _ _ (.exit id) n .refl)
def ret:gE E nt .ret m .ret m:=λ_ _ _ _ _ _ _ n h=>wpIn_ret (h _ _ _ _ .ret n .refl)
def seq (h1:gE E nt x m .normal m1) (h2:gE E nt y m1 e m2):gE E nt (.seq x y) m e m2:=λok ro k g a w Q n h=>
 wpIn_seq (tJ (h1 (okL ok) ro k g a w _ n λg1 a1 w1 x hx n1 t1=>by
  cases hx;exact tJ (h2 (okR ok) ro k g1 a1 w1 Q n1 λg2 a2 w2 y hy n2 t2=>h g2 a2 w2 y hy n2 (t1.trans t2))))
def axL (he:uG e=U) (h1:gE E nt x m e m1):gE E nt (.seq x y) m e m1:=λok ro k g a w Q n h=>
 wpIn_seq (tJ (h1 (okL ok) ro k g a w _ n λg1 a1 w1 x hx n1 t1=>by
  have:=h g1 a1 w1 x hx n1 t1;cases hx<;>first|exact this|cases he))
def cond {c:S'} {b:Bool} (hc:dy m.T c=V (.bool b)) (h1:gE E nt (aT b x y) m e m1):gE E nt (.cond c x y) m e m1:=λok ro k g a w Q n h=>by
 have hv:a.eval c= .bool b:=by
  have:=uf n.fr hc;generalize a.eval c=v at this;cases this;rfl
 have ok:(codeOk x&&codeOk y)=I:=ok;rw[bI] at ok;cases b
 .exact wpIn_cond_false hv (tJ (h1 ok.2 ro k g a w Q n h))
 .exact wpIn_cond_true hv (tJ (h1 ok.1 ro k g a w Q n h))
def block {id:Nat} (h1:gE E nt c m e m1):gE E nt (.block id c) m (leave id e) m1:=λok ro k g a w Q n h=>
 wpIn_block (tJ (h1 ok ro k g a w _ n λg1 a1 w1 x hx n1 t1=>by
  have key:∀y,ExR g1 (leave id e) y->Q y a1 w1:=λy hy=>h g1 a1 w1 y hy n1 t1
  cases hx with
  |normal=>exact key _ .normal
  |ret=>exact key _ .ret
  |AM hv=>exact key _ (.AM hv)
  |exit i=>
   rw[aay] at key;show (if i=id then Q .normal a1 w1 else Q (.exit i) a1 w1)
   split
   .rename_i hi;rw[ax hi] at key;exact key _ .normal
   .rename_i hi;rw[au hi] at key;exact key _ (.exit i)))
def loop (h1:gE E nt c m .normal m1) (h2:gE E nt (.loop c) m1 e m2):gE E nt (.loop c) m e m2:=λok ro k g a w Q n h=>
 akZ (tJ (h1 ok ro k g a w _ n λg1 a1 w1 x hx n1 t1=>by
  cases hx;exact h2 ok ro k g1 a1 w1 Q n1 λg2 a2 w2 y hy n2 t2=>h g2 a2 w2 y hy n2 (t1.trans t2)))
def aKl (he:uG e=U) (h1:gE E nt c m e m1):gE E nt (.loop c) m e m1:=λok ro k g a w Q n h=>
 akZ (tJ (h1 ok ro k g a w _ n λg1 a1 w1 x hx n1 t1=>by
  have:=h g1 a1 w1 x hx n1 t1;cases hx<;>first|exact this|cases he))
end gE
structure Sr1 where
 v:SV
 D:Nat->Bool
 H:Hf
 need:Nat->Prop
 frp:Nat->Prop
 newp:Nat->Prop
structure rM (E:Env) (nt:Nat) (ops:fD) (i:Nat) (o:Oper) (m:MS) (r:Sr1) (m':MS):Prop where
 st:∀ro,VJ E ro nt ops i o m.T r.need m.H r.frp r.newp r.v r.D r.H
 T:m'.T=eE m.T o.dst r.v
 H:m'.H=sV r.D r.H m.H
 nx:m.nx<=m'.nx
def mj (E:Env) (nt:Nat) (i6:fD) (i:Nat) (m m':MS):Prop:=∀(ro:cC) (k:Nat) (g:Gh) (a:Act) (w:World) (Q:Exit->Act->World->Prop),Now E nt g m a w->
 (∀g' a' w',Now E nt g' m' a' w'->yK g m w a g' m' w' a'->Q .normal a' w')->wpOpsIn (xz ro) k E.P i6 Q (List.range' i (i6.size-i)) a w
def mj.nil:mj E nt i6 i6.size m m:=λro k g a w Q n h=>by
 rw[qT];exact h g a w n .refl
def mj.cons {i6:fD} {i:Nat} {o:Oper} {r:Sr1} (hi:i6[i]? =V o) (h1:rM E nt i6 i o m r m1) (hf:∀x,r.frp x->m.nx<=x) (hn:∀x,r.newp x->m.nx<=x/\x<m1.nx) (h2:mj E nt i6 (i+1) m1 m2):mj E nt i6 i m m2:=λro k g a w Q n h=>by
 have cT:i<i6.size:=by
  by_cases hc:i<i6.size
  .exact hc
  .rw[ID W] at hi;cases hi
 rw[show i6.size-i=(i6.size-(i+1))+1 by omega,EU,wpOpsIn_cons]
 refine h1.st ro k g m.H m.T a w _ Q n.env n.fr n.hr (λ_ _=>rfl) (λ_ _=>rfl) (λx hx=>n.fresh x (hf x hx)) λv w' g' q1 q2 q3 q4=> ?_
 rw[<-h1.T] at q1;rw[<-h1.H] at q2 q3;have h1n:=h1.nx;refine h2 ro k g' (a.put o.dst v) w' Q ⟨n.env.mono q3.le,q1,q2,λx hx=> ?_⟩ λg2 a2 w2 n2 t2=>h g2 a2 w2 n2 (yK.trans ⟨q3,put_defers _ _ _,λx hx=>q4 x λhc=> ?_,h1n⟩ t2)
 .rw[q4 x (λhc=>by have:=hn x hc;omega)]
  exact n.fresh x W
 .have:=hn x hc;omega
def gE.region {id:Nat} (h1:mj E nt i6 0 m m1):gE E nt (.region id i6 U) m .normal m1:=λok ro k g a w Q n h=>wpIn_region (by
 have:=h1 ro k g a w Q n λg' a' w' n' t'=>h g' a' w' _ .normal n' t'
 simpa[T3] using this)
def rM.op (hi:i6[i]? =V o) (hw:kI i6.toList o m.T=V I) (hd:ot nt o.dst=I) (ho:vf E o.op m.T m.H new=V (v,us)) (hH:m.H new=A) (hn:m.nx<=nZ):
  rM E nt i6 i o m ⟨v,ady us new,iH m.H us,λx=>x∈P8 o.op m.T,λx=>x=new,λx=>x=new/\us≠ []⟩ ⟨eE m.T o.dst v,iH m.H us,nZ⟩:=by
 refine ⟨λro=>ana hi hw hd ho hH (λx=>by simp[ady]) (atx ho),rfl,?_,hn⟩
 funext x;show iH m.H us x=sV (ady us new) (iH m.H us) m.H x;unfold sV ady;by_cases h1:x∈us.map (·.1)
 .rw[ax (by simp only[lB];exact .inl h1)]
 .rw[ajR h1];split<;>rfl
def rM.skip (hi:i6[i]? =V o) (hw:kI i6.toList o m.T=V U) (hd:ot nt o.dst=I) (hH:m.H new=A):
  rM E nt i6 i o m ⟨.dh [],λx=>A' (x=new),m.H,λ_=>False,λx=>x=new,λ_=>False⟩ ⟨eE m.T o.dst (.dh []),m.H,m.nx⟩:=by
 refine ⟨λro=>step_skip hi hw hd hH (λx=>am),rfl,?_,cM _⟩
 funext x;show m.H x=sV _ m.H m.H x;unfold sV;split<;>rfl
class Mo (E:Env):Prop where
 fn:∀k fn,E.fn.get k=V fn->E.P.funcs[k]? =V fn/\asY fn=I
def gE.sem [hS:Mo E] {fi aa ca vs:bj} (Ob:E.fn.get k=V fn) (Vc:fn.body=V c) (hnum:NU fn.name=U) (li:O (fi++aa++ca)<=fn.ntmps) (he:aIe e=V A) (h1:gE E fn.ntmps c ⟨(setArgs (fi++aa++ca) 0 .nil).get,H,nx⟩ e m1) (hr:Bo E m1.T m1.H fn.results.toList=V vs):p8 E U (.fn (.func k) fi ca) aa H nx (oneOf vs) m1.H m1.nx:=λm g w u us hE hhr oH hu mK=>by
 cases hu with
 | @fn _ first kL _ _ FC Jp=>
 let ⟨hPf,qH⟩:=hS.fn k fn Ob;have B7:ow g (first.toList++us++kL.toList) (fi++aa++ca):=(FC.append mK).append Jp
 have yE:first++us.toArray++kL=(first.toList++us++kL.toList).toArray:=by apply Cg;simp
 have hokc:codeOk c=I:=by
  have qH: @Option.rec Code (λ_=>Bool) I codeOk fn.body=I:=qH
  rw[Vc] at qH;exact qH
 refine ⟨{target:=.fn (.func k) kL,args:=first++us.toArray},rfl,.inl ⟨k,first++us.toArray++kL,?_,?_⟩⟩
 .show (callFunc k (first++us.toArray++kL)).run E.P w=_
  rcases aei hPf (by rw[Vc];rfl) (first++us.toArray++kL) w with ⟨_,hc⟩|hc
  .rw[hc] at hnum;exact absurd hnum (by decide)
  .exact hc
 rw[yE];refine callsIn_of_wp_marks (F:=Fence.wide) hPf Vc trivial (tJ (F:=xz A) ?_);refine h1 hokc A m g {tmps:=_,defers:= []} w _ ⟨hE,FR.args B7 li,hhr,oH⟩ λg1 a1 w1 x hx n1 t1=> ?_
 have fin:LeavesInM Fence.wide m E.P fn a1.tmps (λe w'=>∃r,e=adM U r/\∃g',VR g' r (oneOf vs)/\HR g' m1.H w'/\Fr g H w g' m1.H w'/\(∀x,x<nx->g'.ρ x=g.ρ x)/\∀x,m1.nx<=x->g'.ρ x=A) a1.defers .returning w1:=by
  rw[t1.df];let ⟨v,FC,Jp⟩:=ahD n1.env n1.hr n1.fr hr;exact ⟨v,FC,v,rfl,g1,Jp,n1.hr,t1.fr,t1.ro,n1.fresh⟩
 cases hx with
 |normal=>exact fin
 |ret=>exact fin
 |exit id=>cases he
 |AM hv=>cases he
end Go.bM
end
namespace Go.bM
variable {e t:Ey} {n off n' l K k j sz new:Nat} {a x ox it:S'} {p:Ey×bj} {o:G SO} {svs vs xs R ws:bj} {v u w:SV} {P:Y'} {Y γ:Type} {i:TI} {z mx:Bool} {d c1:cC} {lo:G S'} {fs:bQ} {q:(S'×S')×Ey×Ey} {fn:Nat->Nat} {ms:iU}
section
variable {s Sy K':Nat} {c:Cp}
inductive AV where
 |lit (v:SV)
 |sl (m e s n:Nat) (Q:List (List AV))
 |kX (cs:List AV)
 |agg (cs:List AV)
 |dh (cs:List AV)
 |fn (f:FuncId) (first kL:List AV)
 |kN (t:Ey) (x:AV)
 |el (K s j f:Nat)
 |ms (K s lo n:Nat)
 |mp (K:Nat)
 |it (K:Nat)
 |undef
 deriving Inhabited
abbrev AV.bool (b:Bool):AV:=.lit (.bool b)
abbrev AV.int (k:UQ) (n:Int):AV:=.lit (.int k (.lit n))
abbrev AV.str (s:xN):AV:=.lit (.str s)
abbrev AV.bY:AV:=.lit .bY
abbrev AV.wz:AV:=.lit .wz
abbrev AV.qA:AV:=.lit .qA
abbrev AV.vM:AV:=.lit .vM
abbrev AV.re:AV:=.lit .re
abbrev AV.slice (e s n:Nat) (Q:List (List AV)):AV:=.sl 0 e s n Q
abbrev AV.tN (e s n:Nat) (Q:List (List AV)):AV:=.sl 2 e s n Q
abbrev AV.slf (e s n:Nat) (Q:List (List AV)):AV:=.sl 3 e s n Q
abbrev AV.loc (K f:Nat):AV:=.el K 0 0 f
inductive Sh where
 |d
 |o (x:Bool) (l:List Sh)
inductive Bx where
 |flat (e:Ey) (cs:List AV)
 |bG (z:Bool) (e s:Nat) (l:List Sh) (Q:List (List AV)) (o:List (Nat×AV))
 |map (es:List (AV×AV))
 |iter (s:ByteArray) (pos:Nat)
 deriving Inhabited
abbrev bB:=List (List AV)
abbrev zty13_:=Nat->List Nat
abbrev de:=List (Nat×Bx)
abbrev fN:=List (Nat×AV)
abbrev bg:=List AV
abbrev eG:=List Sh
abbrev Bx.rows (z:Bool) (e s:Nat) (Q:bB):Bx:=.bG z e s [] Q []
abbrev Bx.tree (e s:Nat) (l:eG) (Q:bB) (o:fN):Bx:=.bG U e s l Q o
def zw (x:Bool) (e s n:Nat) (Q:bB):AV:=.sl (aT x 2 0) e s n Q
structure GK where
 n:Nat
 c:Cp
 b:Bool
abbrev Gb:=Nat->GK
def mn:Gb:=λ_=>⟨0,.k 0,U⟩
abbrev Ow:=List (Nat×SO)
def Vt (e:Ey) (n:Nat):Cp->Prop
 | .u e'=>e'=e
 | .k m=>n<=m
def Az (e:Ey) (s n len:Nat):Cp->Prop
 | .u e'=>e'=e/\n*s<=len
 | .k m=>n<=m/\len=m*s
def apX {e len:Nat} (hc:Az e s n len c):Vt e n c:=by
 cases c<;>exact hc.1
def pH {e len:Nat} (hc:Az e s n len c):n*s<=len:=by
 cases c with
 |k m=>rw[hc.2];exact jv _ hc.1
 |u e'=>exact hc.2
mutual
inductive VA (F:Hf):Gb->SV->AV->Prop
 |lit {g:_} (v:_):VA F g v (.lit v)
 |nil {g:_} (m e s:_):VA F g .bY (.sl m e s 0 [])
 |sle {g:_} (e s:_):VA F g .sle (.sl 2 e s 0 [])
 |sl {g m id off c e s n Q e' svs:_} (hn:Q.length=n) (hF:jD (F id) off (n*s)=V (e',svs)) (hc:Vt e n c) (hm:(m=1->Q≠ [])/\(m=3->c= .k n)) (hu:∀r∈Q,r.length=s) (hl:off+n*s<=svs.length) (h:dS F mn ((svs.drop off).take (n*s)) Q.flatten):VA F g (.sl id off n c) (.sl m e s n Q)
 |kX {g id off cs e svs:_} (hF:jD (F id) off cs.length=V (e,svs)) (hl:off+cs.length<=svs.length) (h:dS F mn ((svs.drop off).take cs.length) cs):VA F g (.ptr id off) (.kX cs)
 |agg {g cs xs:_} (h:dS F g cs xs):VA F g (.agg cs) (.agg xs)
 |dh {g cs xs:_} (h:dS F g cs xs):VA F g (.dh cs) (.dh xs)
 |fn {g:_} (f:_) {a c xs ys:_} (h1:dS F g a xs) (h2:dS F g c ys):VA F g (.fn (.func f) a c) (.fn f xs ys)
 |kN {g:_} (t:_) {v x:_} (h:VA F g v x):VA F g (.kN t v) (.kN t x)
 |el {g:_} (K s j f:_) (hb:(g K).b=I):VA F g (.ptr (g K).n (j*s+f)) (.el K s j f)
 |sw {g K:_} (s:_) (hb:(g K).b=U):VA F g .bY (.ms K s 0 0)
 |ms {g K:_} (s lo n:_) (hb:(g K).b=I):VA F g (.sl (g K).n (lo*s) n (A6 (g K).c lo)) (.ms K s lo n)
 |zQ {g K:_} (s lo:_) (hl:0<lo):VA F g .sle (.ms K s lo 0)
 |mp {g:_} (K:_):VA F g (.mp (g K).n) (.mp K)
 |it {g:_} (K:_):VA F g (.ptr (g K).n 0) (.it K)
 |undef {g:_} (v:_):VA F g v .undef
inductive dS (F:Hf):Gb->bj->bg->Prop
 |nil {g:_}:dS F g [] []
 |cons {g v x vs xs:_} (h:VA F g v x) (t:dS F g vs xs):dS F g (v::vs) (x::xs)
end
def oW (F F':Hf):Prop:=∀id o,F id=V o->F' id=V o
def oW.refl (F:Hf):oW F F:=λ_ _ h=>h
def oW.trans {a b c:Hf} (h:oW a b) (k:oW b c):oW a c:=λid o q=>k id o (h id o q)
def xX {F F':Hf} (hF:oW F F') {id:Nat} (q:jD (F id) off n=V p):jD (F' id) off n=V p:=by
 cases hf:F id with
 |none=>rw[hf] at q;cases q
 |some o=>rw[hF id o hf,<-hf];exact q
def acj {F:Hf} {id:Nat} (q:jD (F id) off n=V p):∃o,F id=V o:=by
 cases hf:F id with
 |none=>rw[hf] at q;cases q
 |some o=>exact ⟨o,rfl⟩
def ur (h:o=V (.cells e svs)):jD o off n=V (e,svs):=by rw[h];rfl
def aiT:∀{cs:bj},(∀(j:Nat) (x:SV),cs[j]? =V x->MQ x=U)->xW cs=I
 | [],_=>rfl
 |y::cs,h=>by
  show aT (MQ y) U (xW cs)=I;rw[cx,au (by rw[h 0 y rfl];decide)]
  exact aiT λj x hx=>h (j+1) x hx
def xq (h:jD o off n=V p) (h1:off<=Sy) (h2:Sy+n'<=off+n):jD o Sy n'=V p:=by
 cases o with
 |none=>cases h
 |some x=>cases x with
  |ro cs=>
   let ⟨hd,hx⟩:=bf (show aT (xW ((cs.drop off).take n)) (V (0,cs)) A=V p from h);show aT (xW ((cs.drop Sy).take n')) (V (0,cs)) A=V p;rw[cx,ax (aiT λj x hj=> ?_)]
   .exact hx
   .rw[eO] at hj;split at hj
    .rw[fF] at hj;refine akI hd (j:=Sy-off+j) ?_;rw[eO,ax W,fF,show off+(Sy-off+j)=Sy+j by omega]
     exact hj
    .cases hj
  |_=>exact h
mutual
def kU:AV->bQ
 | .agg cs=>l8 cs
 | .dh cs=>l8 cs
 | .fn _ a c=>l8 a++l8 c
 | .kN _ x=>kU x
 | .el K _ _ _=> [K]
 | .ms K _ _ _=> [K]
 | .mp K=> [K]
 | .it K=> [K]
 |_=> []
def l8:bg->bQ
 | []=> []
 |x::l=>kU x++l8 l
end
mutual
def Fg (f:Nat->Nat):AV->AV
 | .agg cs=>.agg (vR f cs)
 | .dh cs=>.dh (vR f cs)
 | .fn i a c=>.fn i (vR f a) (vR f c)
 | .kN t x=>.kN t (Fg f x)
 | .el K s j i=>.el (f K) s j i
 | .ms K s lo n=>.ms (f K) s lo n
 | .mp K=>.mp (f K)
 | .it K=>.it (f K)
 |x=>x
def vR (f:Nat->Nat):bg->bg
 | []=> []
 |x::l=>Fg f x::vR f l
end
mutual
def Jc:∀x:AV,Fg (λk=>k) x=x
 | .agg cs=>bH AV.agg (yp cs)
 | .dh cs=>bH AV.dh (yp cs)
 | .fn i a c=>by show AV.fn i (vR _ a) (vR _ c)=_;rw[yp a,yp c]
 | .kN t x=>bH (AV.kN t) (Jc x)
 | .el .. | .ms .. | .mp _| .it _| .lit _| .sl .. | .kX _| .undef=>rfl
def yp:∀l:bg,vR (λk=>k) l=l
 | []=>rfl
 |x::l=>by show Fg _ x::vR _ l=_;rw[Jc x,yp l]
end
variable {F F':Hf} {g g':Gb} {f:Nat->Nat}
mutual
def VA.map (hF:oW F F'):∀{g v x},VA F g v x->∀{g':Gb} {f:Nat->Nat},(∀k∈kU x,g' (f k)=g k)->VA F' g' v (Fg f x)
 |_,_,_,.lit v,_,_,_=>.lit v
 |_,_,_,.nil m e s,_,_,_=>.nil m e s
 |_,_,_,.sle e s,_,_,_=>.sle e s
 |_,_,_,.sl hn q hc hm hu hl h,_,_,_=>.sl hn (xX hF q) hc hm hu hl (h.mono hF)
 |_,_,_,.kX q hl h,_,_,_=>.kX (xX hF q) hl (h.mono hF)
 |_,_,_,.agg h,_,_,k=>.agg (h.map hF k)
 |_,_,_,.dh h,_,_,k=>.dh (h.map hF k)
 |_,_,_,.fn i h1 h2,_,_,k=>.fn i (h1.map hF λj hj=>k j (iP _ hj)) (h2.map hF λj hj=>k j (jw _ hj))
 |_,_,_,.kN t h,_,_,k=>.kN t (h.map hF k)
 |_,_,_,.el K s j i hb,_,f,k=>by have e:=k K (by simp[kU]);rw[<-e] at hb ⊢;exact .el (f K) s j i hb
 |_,_,_,.sw s hb,_,_,k=>.sw s (by rw[k _ (by simp[kU])];exact hb)
 |_,_,_,.ms (K:=K) s lo n hb,_,f,k=>by have e:=k K (by simp[kU]);rw[<-e] at hb ⊢;exact .ms s lo n hb
 |_,_,_,.zQ s lo hl,_,_,_=>.zQ s lo hl
 |_,_,_,.mp K,_,f,k=>by rw[<-k K (by simp[kU])];exact .mp (f K)
 |_,_,_,.it K,_,f,k=>by rw[<-k K (by simp[kU])];exact .it (f K)
 |_,_,_,.undef v,_,_,_=>.undef v
def dS.map (hF:oW F F'):∀{g vs xs},dS F g vs xs->∀{g':Gb} {f:Nat->Nat},(∀k∈l8 xs,g' (f k)=g k)->dS F' g' vs (vR f xs)
 |_,_,_,.nil,_,_,_=>.nil
 |_,_,_,.cons h t,_,_,k=>.cons (h.map hF λj hj=>k j (iP _ hj)) (t.map hF λj hj=>k j (jw _ hj))
def dS.mono (hF:oW F F'):∀{g vs xs},dS F g vs xs->dS F' g vs xs
 |_,_,_,.nil=>.nil
 |_,_,_,.cons h t=>.cons (by have:=h.map hF (g':=_) (f:=λk=>k) λ_ _=>rfl;rwa[Jc] at this) (t.mono hF)
end
def VA.same {x:AV} (h:VA F g v x) (hF:oW F F') (hg:∀k∈kU x,g' k=g k):VA F' g' v x:=by
 have:=h.map hF hg;rwa[Jc] at this
def VA.mono {x:AV} (hF:oW F F') (h:VA F g v x):VA F' g v x:=h.same hF λ_ _=>rfl
def dS.same {xs:bg} (h:dS F g vs xs) (hF:oW F F') (hg:∀k∈l8 xs,g' k=g k):dS F' g' vs xs:=by
 have:=h.map hF hg;rwa[yp] at this
def ayH {l:bQ} (h:l.isEmpty=I) {P:Nat->Prop}:∀k∈l,P k:=λk hk=>by
 cases l with
 |nil=>cases hk
 |cons=>cases h
def dS.length:∀{vs xs},dS F g vs xs->O vs=O xs
 |_,_,.nil=>rfl
 |_,_,.cons _ t=>by simp[t.length]
def dS.get:∀{vs xs},dS F g vs xs->∀{j:Nat} {x:AV},xs[j]? =V x->∃v,vs[j]? =V v/\VA F g v x
 |_,_,.nil,_,_,h=>by simp at h
 |_,_,.cons h t,0,x,hx=>by simp at hx;subst hx;exact ⟨_,rfl,h⟩
 |_,_,.cons h t,j+1,x,hx=>by simp at hx;let ⟨v,a,b⟩:=t.get hx;exact ⟨v,by simpa using a,b⟩
def dS.append:∀{vs xs ws ys},dS F g vs xs->dS F g ws ys->dS F g (vs++ws) (xs++ys)
 |_,_,_,_,.nil,k=>k
 |_,_,_,_,.cons h t,k=>.cons h (t.append k)
def dS.drop:∀{vs xs} (n:Nat),dS F g vs xs->dS F g (vs.drop n) (xs.drop n)
 |_,_,0,h=>h
 |_,_,n+1,.nil=>by simpa using .nil
 |_,_,n+1,.cons _ t=>by simpa using t.drop n
def dS.take:∀{vs xs} (n:Nat),dS F g vs xs->dS F g (vs.take n) (xs.take n)
 |_,_,0,_=>by simpa using .nil
 |_,_,n+1,.nil=>by simpa using .nil
 |_,_,n+1,.cons h t=>by simpa using .cons h (t.take n)
def iL (xs:bg) (off:Nat) (ys:bg):bg:=xs.take off++ys++xs.drop (E' off (O ys))
def dS.eX {vs xs ws ys} (h:dS F g vs xs) (k:dS F g ws ys) (off:Nat):dS F g (eX vs off ws) (iL xs off ys):=by
 have:=((h.take off).append k).append (h.drop (off+O ys));show dS F g (vs.take off++ws++vs.drop (off+O ws)) _;rw[k.length];exact this
mutual
inductive TC (F:Hf):Sh->SV->AV->Ow->Prop
 |d {v x:_} (q:VA F mn v x):TC F .d v x []
 |any {sh:_} (v:_):TC F sh v .undef []
 |nil {b l e s:_}:TC F (.o b l) .bY (zw b e s 0 []) []
 |sl {b l id c svs e s n Q ae:_} (hn:Q.length=n) (hu:∀r∈Q,r.length=s) (hc:Az e s n svs.length c) (q:TR F l (svs.take (n*s)) Q ae):TC F (.o b l) (.sl id 0 n c) (zw b e s n Q) ((id,.cells e svs)::ae)
inductive lN (F:Hf):eG->bj->bg->Ow->Prop
 |nil {l:_}:lN F l [] [] []
 |cons {l v vs x xs a b:_} (q:TC F (l.headD .d) v x a) (t:lN F l.tail vs xs b):lN F l (v::vs) (x::xs) (a++b)
inductive TR (F:Hf):eG->bj->bB->Ow->Prop
 |nil {l:_}:TR F l [] [] []
 |cons {l vs ws r rows a b:_} (q:lN F l vs r a) (t:TR F l ws rows b):TR F l (vs++ws) (r::rows) (a++b)
end
mutual
def TC.mono (hF:oW F F'):∀{sh v x ae},TC F sh v x ae->TC F' sh v x ae
 |_,_,_,_,.d q=>.d (q.mono hF)
 |_,_,_,_,.any v=>.any v
 |_,_,_,_,.nil=>.nil
 |_,_,_,_,.sl hn hu hc q=>.sl hn hu hc (q.mono hF)
def lN.mono (hF:oW F F'):∀{l vs xs ae},lN F l vs xs ae->lN F' l vs xs ae
 |_,_,_,_,.nil=>.nil
 |_,_,_,_,.cons q t=>.cons (q.mono hF) (t.mono hF)
def TR.mono (hF:oW F F'):∀{l vs Q ae},TR F l vs Q ae->TR F' l vs Q ae
 |_,_,_,_,.nil=>.nil
 |_,_,_,_,.cons q t=>.cons (q.mono hF) (t.mono hF)
end
def lN.length:∀{l vs xs ae},lN F l vs xs ae->O vs=O xs
 |_,_,_,_,.nil=>rfl
 |_,_,_,_,.cons _ t=>by simp[t.length]
def TR.length:∀{l vs Q ae},TR F l vs Q ae->(∀r∈Q,O r=s)->O vs=O Q*s
 |_,_,_,_,.nil,_=>am
 |_,_,_,_,.cons q t,hu=>by
  rw[gS,q.length,hu _ am,t.length λr hr=>hu r (fj _ hr),l7,Nat.succ_mul]
  omega
mutual
def TC.data (hF:oW F F'):∀{sh v x ae},TC F sh v x ae->(∀p∈ae,F' p.1=V p.2)->VA F' mn v x
 |_,_,_,_,.d q,_=>q.mono hF
 |_,_,_,_,.any v,_=>.undef v
 |_,_,_,_,.nil,_=>.nil _ _ _
 |_,_,_,_,@TC.sl _ b l id c svs e s n Q ae hn hu hc q,hk=>.sl (m:=aT b 2 0) hn (ur (hk (id,.cells e svs) am)) (apX hc) ⟨λh=>(by cases b<;>cases h),λh=>(by cases b<;>cases h)⟩ hu (by rw[cN];exact pH hc) (by simpa using q.data hF λp hp=>hk p (fj _ hp))
def lN.data (hF:oW F F'):∀{l vs xs ae},lN F l vs xs ae->(∀p∈ae,F' p.1=V p.2)->dS F' mn vs xs
 |_,_,_,_,.nil,_=>.nil
 |_,_,_,_,.cons q t,hk=>.cons (q.data hF λp hp=>hk p (iP _ hp)) (t.data hF λp hp=>hk p (jw _ hp))
def TR.data (hF:oW F F'):∀{l vs Q ae},TR F l vs Q ae->(∀p∈ae,F' p.1=V p.2)->dS F' mn vs Q.flatten
 |_,_,_,_,.nil,_=>.nil
 |_,_,_,_,.cons q t,hk=>by
  rw[qQ];exact (q.data hF λp hp=>hk p (iP _ hp)).append (t.data hF λp hp=>hk p (jw _ hp))
end
def lN.tQ:∀{vs xs},dS F mn vs xs->lN F [] vs xs []
 |_,_,.nil=>.nil
 |_,_,.cons h t=>.cons (l:= []) (.d h) (lN.tQ t)
def TR.tQ {s:Nat}:∀{Q:bB} {vs},(∀r∈Q,O r=s)->dS F mn vs Q.flatten->TR F [] vs Q []
 | [],vs,_,q=>by cases q;exact .nil
 |r::Q,vs,hu,q=>by
  rw[qQ] at q;have q1:=q.take (O r);have q2:=q.drop (O r);rw[asN] at q1;rw[asO] at q2;have:=TR.cons (lN.tQ q1) (TR.tQ (λr' hr=>hu r' (fj _ hr)) q2)
  rwa[vC] at this
def Bx.keys:Bx->bQ
 | .flat _ cs=>l8 cs
 | .bG _ _ _ _ _ o=>l8 (o.map (·.2))
 |_=> []
def Bx.iS (f:Nat->Nat):Bx->Bx
 | .flat e cs=>.flat e (vR f cs)
 | .bG z e s l Q o=>.bG z e s l Q (o.map λp=>(p.1,Fg f p.2))
 |b=>b
def HoA (F:Hf) (g:Gb) (svs:bj) (o:fN):Prop:=∀p∈o,∃v,svs[p.1]? =V v/\VA F g v p.2
def BM (ms:iU) (c:Nat):Prop:=(∀n∈ms.map (·.2.2),n<c)/\(ms.map (·.2.2)).Nodup
inductive fg (F:Hf) (g:Gb) (K:Nat):Bx->Ow->Prop
 |flat {e cs svs:_} (q:dS F g svs cs):fg F g K (.flat e cs) [((g K).n,.cells e svs)]
 |nil {z e s l:_} (hb:(g K).b=U):fg F g K (.bG z e s l [] []) []
 |bG {z e s l Q o svs ae:_} (hb:(g K).b=I) (hz:z=I->Q≠ []) (hu:∀r∈Q,r.length=s) (hc:Az e s Q.length svs.length (g K).c) (q:TR F l (svs.take (Q.length*s)) Q ae) (ho:HoA F g svs o):fg F g K (.bG z e s l Q o) (((g K).n,.cells e svs)::ae)
 |map {es ms c:_} (hk:dS F mn (ms.map (·.1)) (es.map (·.1))) (hv:dS F mn (ms.map (·.2.1)) (es.map (·.2))) (hw:BM ms c):fg F g K (.map es) [((g K).n,.map ms c)]
 |iter {s pos:_}:fg F g K (.iter s pos) [((g K).n,.qR s pos)]
def D2:∀{l:bg} {x:AV},x∈l->∀k∈kU x,k∈l8 l
 |y::l,x,hx,k,hk=>(cU.1 hx).elim (λe=>iP _ (e ▸ hk)) λhx=>jw _ (D2 hx k hk)
def HoA.map {svs:bj} {o:fN} (h:HoA F g svs o) (hF:oW F F') (hg:∀k∈l8 (o.map (·.2)),g' (f k)=g k):HoA F' g' svs (o.map λp=>(p.1,Fg f p.2)):=λp hp=>by
 obtain ⟨q,hq,rfl⟩:=dL.1 hp;let ⟨v,h1,h2⟩:=h q hq;exact ⟨v,h1,h2.map hF λk hk=>hg k (D2 (dL.2 ⟨q,hq,rfl⟩) k hk)⟩
def fg.mv {b:Bx} {ae:Ow} (q:fg F g K b ae) (hF:oW F F') (hK:g' K'=g K) (hg:∀k∈b.keys,g' (f k)=g k):fg F' g' K' (b.iS f) ae:=by
 cases q with
 |flat q=>rw[<-hK];exact .flat (q.map hF hg)
 |nil hb=>exact .nil (hK ▸ hb)
 |bG hb hz hu hc q ho=>rw[<-hK] at hb hc ⊢;exact .bG hb hz hu hc (q.mono hF) (ho.map hF hg)
 |map hk hv hw=>rw[<-hK];exact .map (hk.mono hF) (hv.mono hF) hw
 |iter=>rw[<-hK];exact .iter
def Bx.aMu (b:Bx):b.iS (λk=>k)=b:=by
 cases b with
 |flat e cs=>exact bH (Bx.flat e) (yp cs)
 |bG z e s l Q o=>
  refine bH (Bx.bG z e s l Q) ?_;rw[show (λp:Nat×AV=>(p.1,Fg (λk=>k) p.2))=id from funext λp=>by rw[Jc];rfl,List.map_id]
 |_=>rfl
def fg.same {b:Bx} {ae:Ow} (q:fg F g K b ae) (hF:oW F F') (hK:g' K=g K) (hg:∀k∈b.keys,g' k=g k):fg F' g' K b ae:=by
 have:=q.mv hF hK hg;rwa[Bx.aMu] at this
end
section
structure LS where
 ts:fN
 bs:de
def lk {Y:Type} (t:Nat) (l:List (Nat×Y)):G Y:=List.rec A (λp _ ih=>aT (Cz t p.1) (V p.2) ih) l
def dH (t k:Nat) (x:Y) (l:List (Nat×Y)):lk t ((k,x)::l)=if t=k then V x else lk t l:=by
 show aT (Cz t k) (V x) (lk t l)=_;rw[cx];by_cases h:t=k
 .rw[ax h,ax ((f9 _ _).2 h)]
 .rw[au h,au (λe=>h ((f9 _ _).1 e))]
def Ft {Y pp:Type} (f:Nat->Y->pp) (t:Nat):∀l:List (Nat×Y),lk t (l.map λp=>(p.1,f p.1 p.2))=(lk t l).map (f t)
 | []=>rfl
 |(k,x)::l=>by
  rw[j2,dH,dH,Ft f t l];split
  .rename_i e;subst e;rfl
  .rfl
def qk {Y:Type} {t:Nat} {x:Y}:∀{l:List (Nat×Y)},lk t l=V x->(t,x)∈l
 | [],h=>by cases h
 |(k,y)::l,h=>by
  rw[dH] at h;split at h
  .rename_i e;cases h;rw[e];exact kr
  .exact fj _ (qk h)
def l3 {Y:Type} (K:Nat) (l:List (Nat×Y)):List (Nat×Y):=List.rec [] (λp _ ih=>aT (Cz p.1 K) ih (p::ih)) l
def yw {Y:Type} (K k:Nat):∀l:List (Nat×Y),lk k (l3 K l)=if k=K then A else lk k l
 | []=>by split<;>rfl
 |(j,x)::l=>by
  show lk k (aT (Cz j K) (l3 K l) ((j,x)::l3 K l))=_;rw[cx,dH];split
  .rename_i e;obtain rfl:=(f9 _ _).1 e;rw[yw j k l];split<;>rfl
  .rename_i e;have hj:j≠K:=λc=>e ((f9 _ _).2 c)
   rw[dH,yw K k l];by_cases hk:k=j
   .rw[ax hk,ax hk,au (λc=>hj (hk ▸ c))]
   .rw[au hk,au hk]
variable {F F':Hf} {g g':Gb} {Z:Nat->Ow} {c:Nat->cC} {s s':LS} {T T':Tf} {H H':Hf}
structure Rel (F:Hf) (g:Gb) (Z:Nat->Ow) (c:Nat->cC) (s:LS) (T:Tf) (H:Hf):Prop where
 tm:∀t x,lk t s.ts=V x->x≠ .undef->∃v,T t=V v/\VA F g v x
 bx:∀k b,lk k s.bs=V b->fg F g k b (Z k)/\((Z k).map (·.1)).Nodup/\∀p∈Z k,H p.1=V p.2/\c p.1=V k
 fr:∀i o,F i=V o->H i=V o/\c i=A
 cn:∀i,H i=A->c i=A
def Rel.sub (r:Rel F g Z c s T H) (h1:∀t x,lk t s'.ts=V x->lk t s.ts=V x) (h2:∀k b,lk k s'.bs=V b->lk k s.bs=V b):Rel F g Z c s' T H:=
 {r with tm:=λt x hx=>r.tm t x (h1 t x hx),bx:=λk b hb=>r.bx k b (h2 k b hb)}
def LS.put (s:LS) (d:cC) (x:AV):LS:= @Option.rec Nat (λ_=>LS) s (λd=>⟨(d,x)::s.ts,s.bs⟩) d
def Rel.put (r:Rel F g Z c s T H) (d:cC) {x:AV} (hv:x≠ .undef->VA F g v x):Rel F g Z c (s.put d x) (eE T d v) H:=by
 cases d with
 |none=>exact {r with tm:=λt y hy hn=>by simpa[eE] using r.tm t y hy hn}
 |some d=>
  refine {r with tm:=λt y hy hn=> ?_}
  rw[show (s.put (V d) x).ts=(d,x)::s.ts from rfl,dH] at hy;simp only[eE,asU];split at hy
  .rename_i e;cases hy;exact ⟨v,by rw[ax e.symm],hv hn⟩
  .rename_i e;rw[au λh=>e h.symm]
   exact r.tm t y hy hn
def Rel.arR (r:Rel F g Z c s T H) (hF:∀i o,F' i=V o->H i=V o/\c i=A) {ft:Nat->AV->AV} {fb:Nat->Bx->Bx} (h0:∀t,ft t .undef= .undef) (h1:∀t v x,lk t s.ts=V x->VA F g v x->VA F' g' v (ft t x))
  (h2:∀k b ae,lk k s.bs=V b->fg F g k b ae->fg F' g' k (fb k b) ae):Rel F' g' Z c ⟨s.ts.map λp=>(p.1,ft p.1 p.2),s.bs.map λp=>(p.1,fb p.1 p.2)⟩ T H:=by
 refine ⟨λt y hy hn=> ?_,λk b hb=> ?_,hF,r.cn⟩
 .have hy:lk t (s.ts.map λp=>(p.1,ft p.1 p.2))=V y:=hy
  rw[Ft] at hy;let ⟨x,hx,e⟩:=xb.1 hy;by_cases hu:x= .undef
  .subst hu;rw[h0] at e;exact absurd e.symm hn
  .let ⟨v,v1,v2⟩:=r.tm t x hx hu;exact ⟨v,v1,e ▸ h1 t v x hx v2⟩
 .have hb:lk k (s.bs.map λp=>(p.1,fb p.1 p.2))=V b:=hb
  rw[Ft] at hb;obtain ⟨b0,qu,rfl⟩:=xb.1 hb;let ⟨q,q2⟩:=r.bx k b0 qu;exact ⟨h2 k b0 _ qu q,q2⟩
def j4 {Y:Type} (Z:Nat->Y) (K:Nat) (x:Y):Nat->Y:=λk=>if k=K then x else Z k
def LS.free (s:LS) (K:Nat):Prop:=(∀t x,lk t s.ts=V x->K∉kU x)/\∀k b,k≠K->lk k s.bs=V b->K∉b.keys
def LS.set (s:LS) (K:Nat) (b:Bx):LS:=⟨s.ts,(K,b)::s.bs⟩
def Alike (s:LS) (K:Nat) (g g':Gb):Prop:=g'=g\/(s.free K/\∀k,k≠K->g' k=g k)
def Alike.va (h:Alike s K g g') {t:Nat} {x:AV} (hx:lk t s.ts=V x) (hv:VA F g v x):VA F g' v x:=by
 rcases h with rfl|⟨h1,h2⟩
 .exact hv
 .exact hv.same (.refl F) λk hk=>h2 k λe=>h1.1 t x hx (e ▸ hk)
def Alike.box (h:Alike s K g g') {b:Bx} (dd:k≠K) (hb:lk k s.bs=V b) {ae:Ow} (q:fg F g k b ae):fg F g' k b ae:=by
 rcases h with rfl|⟨h1,h2⟩
 .exact q
 .exact q.same (.refl F) (h2 k dd) λj hj=>h2 j λe=>h1.2 k b dd hb (e ▸ hj)
open Classical in
def Rel.chg (r:Rel F g Z c s T H) {b':Bx} {L':Ow} (hb:fg F g' K b' L') (nd:(L'.map (·.1)).Nodup) (hL:∀p∈L',H' p.1=V p.2/\(c p.1=V K\/H p.1=A)) (hH:∀i,H' i≠H i->c i=V K\/H i=A) (hg:Alike s K g g'):∃c',Rel F g' (j4 Z K L') c' (s.set K b') T H'/\(∀i,H i≠A->c i≠V K->c' i=c i)/\(∀i k,c' i=V k->c i=V k\/(k=K/\i∈L'.map (·.1)))/\∀i k,c i=V k->c' i=V k\/H' i=A:=by
 let c':Nat->cC:=λi=>if H' i=A then A else if i∈L'.map (·.1) then V K else c i
 have keep:∀{i o},H i=V o->c i≠V K->H' i=V o/\c' i=c i:=λ{i o} hi hc=>by
  have e:H' i=H i:=qP λhn=>(hH i hn).elim hc λh=>by rw[h] at hi;cases hi
  refine ⟨e.trans hi,?_⟩;show (if H' i=A then A else if i∈L'.map (·.1) then V K else c i)=c i
  rw[e,hi,au am,au λhm=> ?_]
  obtain ⟨p,hp,rfl⟩:=dL.1 hm;exact (hL p hp).2.elim hc λh=>by rw[h] at hi;cases hi
 refine ⟨c',⟨λt x hx hn=> ?_,λk b hk=> ?_,λi o hi=> ?_,λi hi=>ax hi⟩,λi hi hc=> ?_,λi k h=> ?_,λi k h=> ?_⟩
 .let ⟨v,v1,v2⟩:=r.tm t x hx hn;exact ⟨v,v1,hg.va hx v2⟩
 .rw[show (s.set K b').bs=(K,b')::s.bs from rfl,dH] at hk;unfold j4;split at hk
  .rename_i e;cases hk;rw[ax e,e];refine ⟨hb,nd,λp hp=>⟨(hL p hp).1,?_⟩⟩
   show (if H' p.1=A then A else if p.1∈L'.map (·.1) then V K else c p.1)=V K
   rw[(hL p hp).1,au am,ax (dL.2 ⟨p,hp,rfl⟩)]
  .rename_i e;rw[au e];let ⟨q1,q2,q3⟩:=r.bx k b hk;refine ⟨hg.box e hk q1,q2,λp hp=> ?_⟩
   let ⟨p1,p2⟩:=q3 p hp;let ⟨k1,k2⟩:=keep p1 (by rw[p2];exact λh=>e (by injection h))
   exact ⟨k1,k2.trans p2⟩
 .let ⟨p1,p2⟩:=r.fr i o hi;let ⟨k1,k2⟩:=keep p1 (by rw[p2];simp)
  exact ⟨k1,k2.trans p2⟩
 .let ⟨o,ho⟩:=vB.1 hi;exact (keep ho hc).2
 .have h:(if H' i=A then A else if i∈L'.map (·.1) then V K else c i)=V k:=h
  split at h
  .cases h
  .split at h
   .rename_i hm;exact .inr ⟨(kh h).symm,hm⟩
   .exact .inl h
 .show (if H' i=A then A else if i∈L'.map (·.1) then V K else c i)=V k\/_
  split
  .rename_i e;exact .inr e
  .left;split
   .rename_i hm;obtain ⟨p,hp,rfl⟩:=dL.1 hm;rcases (hL p hp).2 with e|e
    .exact e.symm.trans h
    .rw[r.cn _ e] at h;cases h
   .exact h
def uF {i:Nat} {c:Nat->cC} (h:(if c i=V K then A else c i)=V K):False:=by
 split at h
 .cases h
 .contradiction
def Rel.sink (r:Rel F g Z c s T H) (K:Nat):∃F' c',oW F F'/\((∀i k,c' i=V k->c i=V k)/\(∀i,F' i≠A->F i≠A\/c i=V K)/\(∀i,c i≠V K->c' i=c i)/\∀i,c' i≠V K)/\(∀b,lk K s.bs=V b->∀p∈Z K,F' p.1=V p.2)/\Rel F' g Z c' ⟨s.ts,l3 K s.bs⟩ T H:=by
 let F':Hf:=λi=>if c i=V K then H i else F i
 have hF:oW F F':=λi o ho=>by
  show (if c i=V K then H i else F i)=V o
  rw[(r.fr i o ho).2,au am]
  exact ho
 refine ⟨F',λi=>if c i=V K then A else c i,hF,⟨λi k h=> ?_,λi h=> ?_,λi h=>au h,λi h=>uF h⟩,λb hb p hp=> ?_,λt x hx hn=> ?_,λk b hk=> ?_,λi o hi=> ?_,λi hi=> ?_⟩
 .dsimp only at h;split at h
  .cases h
  .exact h
 .have h:(if c i=V K then H i else F i)≠A:=h
  split at h
  .exact .inr (by assumption)
  .exact .inl h
 .let ⟨p1,p2⟩:=(r.bx K b hb).2.2 p hp;exact (ax p2).trans p1
 .let ⟨v,v1,v2⟩:=r.tm t x hx hn;exact ⟨v,v1,v2.mono hF⟩
 .rw[yw] at hk;split at hk
  .cases hk
  .rename_i dd;let ⟨q1,q2,q3⟩:=r.bx k b hk;refine ⟨q1.same hF rfl λ_ _=>rfl,q2,λp hp=>⟨(q3 p hp).1,?_⟩⟩
   rw[(q3 p hp).2,au λh=>dd (by injection h)]
 .have hi:(if c i=V K then H i else F i)=V o:=hi
  split at hi
  .rename_i e;exact ⟨hi,ax e⟩
  .rename_i e;exact ⟨(r.fr i o hi).1,(au e).trans (r.fr i o hi).2⟩
 .split
  .rfl
  .exact r.cn i hi
structure kT (pn:Nat->Bool) (s s':LS):Prop where
 go:∀{F g Z c T H},Rel F g Z c s T H->∃F' g' φ' c',oW F F'/\(∀k,pn k=I->g' k=g k)/\Rel F' g' φ' c' s' T H
variable {pn:Nat->Bool} {s1:LS}
def kT.refl:kT pn s s:=.mk λr=>⟨_,_,_,_,.refl _,λ_ _=>rfl,r⟩
def kT.trans (h:kT pn s s1) (k:kT pn s1 s'):kT pn s s':=.mk λr=>
 let ⟨_,_,_,_,h1,h2,r1⟩:=h.go r
 let ⟨_,_,_,_,k1,k2,r2⟩:=k.go r1
 ⟨_,_,_,_,h1.trans k1,λj hj=>(k2 j hj).trans (h2 j hj),r2⟩
end
section
variable {F:Hf} {g g':Gb} {Z:Nat->Ow} {c:Nat->cC} {s s':LS} {T:Tf} {H:Hf} {E:Env} {pn:Nat->Bool}
variable {f:Hf->SV->gZ}
def dR (ts:fN) (x:S'):AV:=
 match x with
 | .tmp t=>(lk t ts).getD .undef
 | .const v=>.lit (xp v)
 | .func f=>.fn f [] []
 | .global _=>.undef
def rF (ts:fN) (xs:List S'):bg:=xs.map (dR ts)
def tW:AV->Bool
 | .undef=>I
 |_=>U
def akE {x:AV} (h:tW x=U):x≠ .undef:=λe=>by rw[e] at h;cases h
def sd:bg->Bool
 | []=>I
 |x::l=>aT (tW x) U (sd l)
def Rel.val (r:Rel F g Z c s T H) {y:AV} (hx:dR s.ts x=y) (hy:y≠ .undef):∃v,dy T x=V v/\VA F g v y:=by
 subst hx;cases x with
 |tmp t=>
  cases h:lk t s.ts with
  |none=>exact absurd (by show (lk t s.ts).getD .undef=_;rw[h];rfl) hy
  |some z=>
   have e:dR s.ts (.tmp t)=z:=by show (lk t s.ts).getD .undef=_;rw[h];rfl
   rw[e] at hy ⊢;exact r.tm t z h hy
 |const v=>exact ⟨_,rfl,.lit _⟩
 |func f=>exact ⟨_,rfl,.fn f .nil .nil⟩
 |global _=>exact absurd rfl hy
def Rel.gN (r:Rel F g Z c s T H):∀{xs:List S'},sd (rF s.ts xs)=I->∃vs,gN T xs=V vs/\dS F g vs (rF s.ts xs)
 | [],_=>⟨[],rfl,.nil⟩
 |x::xs,h=>by
  have h:aT (tW (dR s.ts x)) U (sd (rF s.ts xs))=I:=h;rw[cx] at h;split at h
  .cases h
  .rename_i hx;let ⟨v,v1,v2⟩:=r.val (x:=x) rfl (akE (by simpa using hx))
   let ⟨vs,w1,w2⟩:=r.gN h;exact ⟨v::vs,by show cq (dy T x) (bM.gN T xs) _=_;rw[v1,w1];rfl,.cons v2 w2⟩
structure Ok (E:Env) (pn:Nat->Bool) (op:Op) (s s':LS) (x:AV) (ac:bQ):Prop where
 go:∀{F:Hf} {g:Gb} {Z:Nat->Ow} {c:Nat->cC} {T:Tf} {H:Hf} {new:Nat},Rel F g Z c s T H->H new=A->∃v us g' φ' c',vf E op T H new=V (v,us)/\(x≠ .undef->VA F g' v x)/\Rel F g' φ' c' s' T (iH H us)/\(∀k,pn k=I->g' k=g k)/\
  (∀i,H i≠A->(∀K∈ac,c i≠V K)->iH H us i=H i/\c' i=c i)/\(∀u∈us,u.1=new\/∃K∈ac,c u.1=V K)/\(∀i k,c i=V k->c' i=V k\/iH H us i=A)/\(iH H us new≠A->∃K∈ac,c' new=V K)
def Ok.val {op:Op} {x:AV} (h:∀{F:Hf} {g:Gb} {Z:Nat->Ow} {c:Nat->cC} {T:Tf} {H:Hf},Rel F g Z c s T H->∃v,(∀new,vf E op T H new=V (v,[]))/\VA F g v x):Ok E pn op s s x []:=⟨λ{F g Z c T H new} r hn=>by
 let ⟨v,v1,v2⟩:=h r;exact ⟨v,[],g,Z,c,v1 new,λ_=>v2,r,λ_ _=>rfl,λ_ _ _=>⟨rfl,rfl⟩,λ_ hu=>(by cases hu),λ_ _ h=>.inl h,λh=>absurd hn h⟩⟩
def Ok.un {op:Op} {x y:AV} (gP:∀T H new,vf E op T H new=one T a (f H)) (ha:dR s.ts a=y) (hy:y≠ .undef) (hf:∀{F:Hf} {g:Gb} {Z:Nat->Ow} {c:Nat->cC} {T:Tf} {H:Hf} {v:SV},Rel F g Z c s T H->VA F g v y->∃u,f H v=V (u,[])/\VA F g u x):Ok E pn op s s x []:=.val λ{F g Z c T H} r=>by
 let ⟨v,v1,v2⟩:=r.val ha hy;let ⟨u,u1,u2⟩:=hf r v2;exact ⟨u,λnew=>by rw[gP,one,v1];exact u1,u2⟩
def Ok.bi {op:Op} {b:S'} {f:SV->SV->gZ} {x y z:AV} (gP:∀T H new,vf E op T H new=two T a b f) (ha:dR s.ts a=y) (hy:y≠ .undef) (hb:dR s.ts b=z) (hz:z≠ .undef) (hf:∀{F:Hf} {g:Gb} {v w:SV},VA F g v y->VA F g w z->∃u,f v w=V (u,[])/\VA F g u x):Ok E pn op s s x []:=.val λ{F g Z c T H} r=>by
 let ⟨v,v1,v2⟩:=r.val ha hy;let ⟨w,w1,w2⟩:=r.val hb hz;let ⟨u,u1,u2⟩:=hf v2 w2;exact ⟨u,λnew=>by rw[gP,two,v1,w1];exact u1,u2⟩
def Ok.boxG {op:Op} {x:AV} {b':Bx} {s1:LS} (hs:∀{F:Hf} {g:Gb} {Z:Nat->Ow} {c:Nat->cC} {T:Tf} {H:Hf},Rel F g Z c s T H->Rel F g Z c s1 T H) (h:∀{F:Hf} {g:Gb} {Z:Nat->Ow} {c:Nat->cC} {T:Tf} {H:Hf} {new:Nat},Rel F g Z c s T H->H new=A->∃v us gk L',vf E op T H new=V (v,us)/\VA F (j4 g K gk) v x/\fg F (j4 g K gk) K b' L'/\(L'.map (·.1)).Nodup/\
  (∀p∈L',iH H us p.1=V p.2/\(c p.1=V K\/H p.1=A))/\(∀u∈us,u.1=new\/c u.1=V K)/\(gk=g K\/(pn K=U/\s1.free K))/\(iH H us new=A\/new∈L'.map (·.1))):Ok E pn op s (s1.set K b') x [K]:=⟨λ{F g Z c T H new} r hn=>by
 let ⟨v,us,gk,L',v1,v2,hb,nd,hL,hu,hg,xS⟩:=h r hn;have r:=hs r;have cu:∀i,iH H us i≠H i->c i=V K\/H i=A:=λi hi=>by
  by_cases hm:i∈us.map (·.1)
  .obtain ⟨u,vk,rfl⟩:=dL.1 hm;exact (hu u vk).elim (λe=>.inr (by rw[e];exact hn)) .inl
  .exact absurd (ajR hm H) hi
 have same:gk=g K->j4 g K gk=g:=λe=>funext λk=>by unfold j4;split<;>simp_all
 let ⟨c',r',hc,CQ,hc3⟩:=r.chg hb nd hL cu (hg.elim (λe=>.inl (same e)) λhf=>.inr ⟨hf.2,λk hk=>au hk⟩)
 refine ⟨v,us,_,_,c',v1,λ_=>v2,r',λk hk=> ?_,λi hi hW=> ?_,λu hm=>(hu u hm).imp_right λe=>⟨K,am,e⟩,λi k hk=>hc3 i k hk,λdd=> ?_⟩
 .rcases hg with e|⟨e,_⟩
  .rw[same e]
  .exact au λe'=>by rw[e',e] at hk;cases hk
 .have hK:=hW K am
  exact ⟨qP λdd=>(cu i dd).elim hK hi,hc i hi hK⟩
 .rcases xS with h|h
  .exact absurd h dd
  .obtain ⟨p,hp,rfl⟩:=dL.1 h;exact ⟨K,am,((r'.bx K _ (by rw[show (s1.set K b').bs=(K,b')::s1.bs from rfl,dH,ax rfl])).2.2 p (by unfold j4;rw[ax rfl];exact hp)).2⟩⟩
def Ok.box {op:Op} {x:AV} {b':Bx} (h:∀{F:Hf} {g:Gb} {Z:Nat->Ow} {c:Nat->cC} {T:Tf} {H:Hf} {new:Nat},Rel F g Z c s T H->H new=A->∃v us gk L',vf E op T H new=V (v,us)/\VA F (j4 g K gk) v x/\fg F (j4 g K gk) K b' L'/\(L'.map (·.1)).Nodup/\
  (∀p∈L',iH H us p.1=V p.2/\(c p.1=V K\/H p.1=A))/\(∀u∈us,u.1=new\/c u.1=V K)/\(gk=g K\/(pn K=U/\s.free K))/\(iH H us new=A\/new∈L'.map (·.1))):Ok E pn op s (s.set K b') x [K]:=.boxG (λr=>r) h
def Ok.lay {op:Op} {x:AV} {b:Bx} (hp:pn K=U) (hf:s.free K) (h:∀{F:Hf} {g:Gb} {Z:Nat->Ow} {c:Nat->cC} {T:Tf} {H:Hf} {new:Nat},Rel F g Z c s T H->∃v o cp,vf E op T H new=V (v,[(new,V o)])/\
  ∀g':Gb,g' K=⟨new,cp,I⟩->(∀k,k≠K->g' k=g k)->VA F g' v x/\fg F g' K b [(new,o)]):Ok E pn op s (s.set K b) x [K]:=.box λ{F g Z c T H new} r hn=>by
 let ⟨v,o,cp,v1,v2⟩:=h (new:=new) r;let ⟨a,b⟩:=v2 (j4 g K ⟨new,cp,I⟩) (ax rfl) λk hk=>au hk
 refine ⟨v,_,⟨new,cp,I⟩,_,v1,a,b,am,λp hp=> ?_,λu hu=>.inl (by rw[gy.1 hu]),.inr ⟨hp,hf⟩,.inr am⟩
 obtain rfl:=gy.1 hp;exact ⟨by simp[iH,jG],.inr hn⟩
def Ok.wr {op:Op} {x:AV} {b b':Bx} (hb:lk K s.bs=V b) (h:∀{F:Hf} {g:Gb} {Z:Nat->Ow} {c:Nat->cC} {T:Tf} {H:Hf},Rel F g Z c s T H->∃v o o' ae L',Z K=((g K).n,o)::ae/\(∀new,vf E op T H new=V (v,[((g K).n,V o')]))/\
  VA F g v x/\fg F g K b' (((g K).n,o')::L')/\L'.Sublist ae):Ok E pn op s (s.set K b') x [K]:=.box λ{F g Z c T H new} r hn=>by
 let ⟨v,o,o',ae,L',e,v1,v2,v3,hs⟩:=h r;let ⟨_,q2,q3⟩:=r.bx K b hb;rw[e] at q2 q3;have same:j4 g K (g K)=g:=funext λk=>by unfold j4;split<;>simp_all
 have qn:=(q3 ((g K).n,o) am).2
 have nd:(((g K).n,o')::L').map (·.1)|>.Nodup:=by rw[j2,qV] at q2 ⊢;exact ⟨λh=>q2.1 ((hs.map _).subset h),(hs.map _).nodup q2.2⟩
 refine ⟨v,_,g K,((g K).n,o')::L',v1 new,by rw[same];exact v2,by rw[same];exact v3,nd,λp hp=> ?_,λu hu=>.inr (by rw[gy.1 hu];exact qn),.inl rfl,.inl ?_⟩
 rcases cU.1 hp with rfl|hp
 .exact ⟨by simp[iH,jG],.inl qn⟩
 .let ⟨p1,p2⟩:=q3 p (fj _ (hs.subset hp));refine ⟨?_,.inl p2⟩;show jG H ((g K).n,V o') p.1=_;unfold jG;rw[au λe=> ?_]
  .exact p1
  .have:=(qV.1 nd).1;exact this (by have e:p.1=(g K).n:=e;exact dL.2 ⟨p,hp,e⟩)
 .show (if new=(g K).n then _ else H new)=A
  rw[au λe=> ?_]
  .exact hn
  .have:=(q3 ((g K).n,o) am).1
   rw[e] at hn;rw[show ((g K).n,o).1=(g K).n from rfl,hn] at this;cases this
end
section
variable {F F':Hf} {g g':Gb} {Z:Nat->Ow} {c:Nat->cC} {s s':LS} {T:Tf} {H:Hf} {E:Env} {pn:Nat->Bool}
variable {f:Nat} {v':SV} {oy:S'} {i2:TI}
def yg (vs:bj):bg:=vs.map .lit
def tU:∀{vs:bj},dS F g vs (yg vs)
 | []=>.nil
 |v::vs=>.cons (.lit v) tU
def O4 (x:AV):G bg:=
 match x with
 | .agg cs=>V cs
 | .lit (.agg vs)=>V (yg vs)
 |_=>A
def aaW {x:AV} {cs:bg} (h:O4 x=V cs) (hv:VA F g v x):∃vs,v= .agg vs/\dS F g vs cs:=by
 unfold O4 at h;split at h
 .cases h;cases hv with|agg q=>exact ⟨_,rfl,q⟩
 .cases h;cases hv;exact ⟨_,rfl,tU⟩
 .cases h
def F5 (x:AV):G bg:=
 match x with
 | .agg cs=>V cs
 | .lit v=>aA v.cells λvs=>V (yg vs)
 | .dh _=>A
 | .undef=>A
 |x=>V [x]
def Ho {x:AV} {xs:bg} (h:F5 x=V xs) (hv:VA F g v x):∃vs,v.cells=V vs/\dS F g vs xs:=by
 unfold F5 at h;split at h
 .cases h;cases hv with|agg q=>exact ⟨_,rfl,q⟩
 .let ⟨vs,h1,h⟩:=ak h;cases h;cases hv;exact ⟨vs,h1,tU⟩
 .cases h
 .cases h
 .cases h;refine ⟨[v],?_,.cons hv .nil⟩;cases hv<;>first|rfl|simp_all
def vT (i:TI) (cs:bg) (off:Nat):G AV:=
 aT (oj i.desc) (aT (D' (E' off i.size) (O cs)) (V (.agg ((cs.drop off).take i.size))) A) (cs[off]?)
def xj {cs:bg} {x:AV} (q:dS F g vs cs) (hx:vT i cs off=V x):∃v,jr i vs off=V v/\VA F g v x:=by
 unfold vT at hx;unfold jr;rw[cx] at hx ⊢;split at hx
 .rename_i ha;rw[ax ha];let ⟨hl,hx⟩:=bf hx;cases hx;rw[q.length,cx,ax hl];exact ⟨_,rfl,.agg ((q.drop off).take i.size)⟩
 .rename_i ha;rw[au ha];exact q.get hx
def ahW (h:jr i ((svs.drop off).take n) 0=V u) (hl:off+n<=O svs):jr i svs off=V u:=by
 unfold jr at h ⊢;rw[cx] at h ⊢;split at h
 .rename_i ha;rw[ax ha];let ⟨lm,hu⟩:=bf h;have lm:0+i.size<=O ((svs.drop off).take n):=(bO _ _).1 lm;rw[dv,iz] at lm;cases hu;rw[cx,ax (show D' (E' off i.size) (O svs)=I from (bO _ _).2 (show off+i.size<=O svs by omega))]
  rw[oQ,mC,fG W]
 .rename_i ha;rw[au ha];rw[eO] at h;split at h
  .rw[fF] at h;simpa using h
  .cases h
def aJn {cs:bg} {x:AV} (h:vT i cs 0=V x):wide i<=O cs:=by
 unfold vT at h;unfold wide;rw[cx] at h ⊢;split at h
 .rename_i hg;rw[ax hg];have:=(bO _ _).1 (bf h).1;rwa[show E' 0 i.size=i.size from cN _] at this
 .rename_i hg;rw[au hg];have:=(bk.1 h).1;omega
def Jx (E:Env) (s:Ey) (f:Nat):G (Nat×TI):=aA (E.ty.get s) λi=>aA (A7 i.desc) λfs=>aA (fs[f]?) λfl=>aA (E.ty.get fl.type) λfi=>V (fl.off,fi)
def ad0 {p:Nat×TI} (hf:Jx E t f=V p):∃i fs fl,E.ty.get t=V i/\A7 i.desc=V fs/\fs[f]? =V fl/\E.ty.get fl.type=V p.2/\fl.off=p.1:=by
 let ⟨i,hi,hf⟩:=ak hf;let ⟨fs,hfs,hf⟩:=ak hf;let ⟨fl,FJ,hf⟩:=ak hf;let ⟨fi,hfi,hf⟩:=ak hf;cases hf;exact ⟨i,fs,fl,hi,hfs,FJ,hfi,rfl⟩
def aAr (p:Nat×TI) (x:AV):G AV:=
 aT (D' 1 p.2.size) (match x with
  | .el K s j f=>V (.el K s j (E' f p.1))
  | .kX cs=>aT (D' p.1 (O cs)) (V (.kX (cs.drop p.1))) A
  |_=>A) A
def aCX {id:Nat} {cs:bg} (q:VA F g (.ptr id off) (.kX cs)) (hk:k<=O cs):VA F g (.ptr id (off+k)) (.kX (cs.drop k)):=by
 cases q with
 |kX hF hl hv=>
  refine .kX (xq hF W (by rw[iz];omega)) (by rw[iz];omega) ?_
  have:=hv.drop k;rw[wX,tF] at this;rw[iz];exact this
def aDR {p:Nat×TI} {x y:AV} (hp:Jx E t f=V p) (hx:aAr p y=V x) (hv:VA F g v y):∃u,sU E t f v=V (u,[])/\VA F g u x:=by
 let ⟨i,fs,fl,e1,e2,e3,e4,e5⟩:=ad0 hp;let ⟨oG,hx⟩:=bf hx;have key:∀id off,sU E t f (.ptr id off)=V (SV.ptr id (E' off p.1),[]):=λid off=>by
  unfold sU;rw[e1];show aA (A7 i.desc) _=_;rw[e2];show aA (fs[f]?) _=_;rw[e3];show aA (E.ty.get fl.type) _=_;rw[e4];show aT (D' 1 p.2.size) (V (SV.ptr id (E' off fl.off),[])) A=_;rw[oG,e5]
 split at hx
 .cases hx;cases hv;refine ⟨_,key _ _,?_⟩;rw[show E' (_+_) p.1=_+E' _ p.1 from il _ _ _];exact .el _ _ _ _ (by assumption)
 .let ⟨hk,hx⟩:=bf hx;cases hx;have G8:∃id off,v=SV.ptr id off:=by cases hv;exact ⟨_,_,rfl⟩
  obtain ⟨id,off,rfl⟩:=G8;exact ⟨_,key _ _,aCX hv ((bO _ _).1 hk)⟩
 .cases hx
def aDQ {p:Nat×TI} {cs:bg} {x:AV} (hp:Jx E t f=V p) (q:dS F g vs cs) (hx:vT p.2 cs p.1=V x):∃u,EH E t f (.agg vs)=V (u,[])/\VA F g u x:=by
 let ⟨i,fs,fl,e1,e2,e3,e4,e5⟩:=ad0 hp;let ⟨u,u1,u2⟩:=xj q hx;refine ⟨u,?_,u2⟩;unfold EH;rw[e1];show aA (A7 i.desc) _=_;rw[e2];show aA (fs[f]?) _=_;rw[e3];show aA (E.ty.get fl.type) _=_;rw[e4];show same (jr p.2 vs fl.off)=_;rw[e5,u1];rfl
def Qg {id:Nat} (hi:E.ty.get t=V i) (hh:jD (H id) off (wide i)=V (e,svs)) (hu:jr i svs off=V u):same (sy E H t (.ptr id off))=V (u,[]):=by
 unfold sy;show same (aA (E.ty.get t) λi=>aA (jD (H id) off (wide i)) λp=>jr i p.2 off)=_
 rw[hi];show same (aA (jD (H id) off (wide i)) λp=>jr i p.2 off)=_
 rw[hh];show same (jr i svs off)=_;rw[hu];rfl
def VA.tR {x:AV} (q:VA F g v x) (hk:(kU x).isEmpty=I):VA F g' v x:=q.same (.refl F) (ayH hk)
def dS.tR {v:bj} {x:bg} (q:dS F g v x) (hk:(l8 x).isEmpty=I):dS F g' v x:=q.same (.refl F) (ayH hk)
def zer {Y:Type} (j:Nat) (x:G Y):G Y:=match j with|0=>x|_=>A
def afA {x:G Y} {y:Y} (h:zer j x=V y):j=0/\x=V y:=by
 cases j with
 |zero=>exact ⟨rfl,h⟩
 |succ j=>cases h
def Lh (i:TI) (bs:de):AV->G AV
 | .kX cs=>aA (vT i cs 0) λx=>aT (kU x).isEmpty (V x) A
 | .el K _ j off=>
  (match lk K bs with
  |some (.flat _ cs)=>zer j (vT i cs off)
  |_=>A)
 |_=>A
def Rel.flat (r:Rel F g Z c s T H) {K:Nat} {e:Ey} {cs:bg} (hb:lk K s.bs=V (.flat e cs)):∃svs,Z K= [((g K).n,.cells e svs)]/\dS F g svs cs/\H (g K).n=V (.cells e svs):=by
 let ⟨q,_,q3⟩:=r.bx K _ hb;generalize Z K=ae at q q3;cases q with
 | @flat e cs svs q=>exact ⟨svs,rfl,q,(q3 ((g K).n,.cells e svs) am).1⟩
def apt {x y:AV} (hi:E.ty.get t=V i) (hx:Lh i s.bs y=V x) (r:Rel F g Z c s T H) (hv:VA F g v y):∃u,same (sy E H t v)=V (u,[])/\VA F g u x:=by
 unfold Lh at hx;split at hx
 .let ⟨x',hx,qG⟩:=ak hx;let ⟨hk,qG⟩:=bf qG;cases qG;cases hv with
  |kX hF hl hv=>
  let ⟨u,u1,u2⟩:=xj hv hx;exact ⟨u,Qg hi (xq (xX (λi o h=>(r.fr i o h).1) hF) (cM _) (Nat.add_le_add_left (aJn hx) _)) (ahW u1 hl),u2.tR hk⟩
 .split at hx
  .rename_i e cs hb;obtain ⟨rfl,hx⟩:=afA hx;cases hv;let ⟨svs,_,q,hH⟩:=r.flat hb;let ⟨u,u1,u2⟩:=xj q hx;exact ⟨u,by rw[nX,cN];exact Qg hi (ur hH) u1,u2⟩
  .cases hx
 .cases hx
def binL:Z6->UQ->Int->Int->G AV
 | .add,k,m,n=>V (.int k (k.wrap (m+n)))
 | .sub,k,m,n=>V (.int k (k.wrap (m-n)))
 | .mul,k,m,n=>V (.int k (k.wrap (m*n)))
 | .eql,_,m,n=>V (.bool (A' (m=n)))
 | .neq,_,m,n=>V (.bool (!A' (m=n)))
 | .lss,_,m,n=>V (.bool (A' (m<n)))
 | .leq,_,m,n=>V (.bool (!A' (n<m)))
 | .gtr,_,m,n=>V (.bool (A' (n<m)))
 | .geq,_,m,n=>V (.bool (!A' (m<n)))
 | .shr,k,m,n=>aT (A' (n=1)) (V (.int k (m.fdiv 2))) A
 |_,_,_,_=>A
def ahE {k k':UQ} (h:iV k k'=I):k=k':=by cases k<;>cases k'<;>first|rfl|cases h
def VA.of_eq (h:v=v'):VA F g v (.lit v'):=h ▸ .lit v
def aKM {op:Z6} {k:UQ} {m n:Int} {x:AV} (hx:binL op k m n=V x):∃v,aAL E op t k (.lit m) (.int k (.lit n))=V v/\VA F g v x:=by
 have kk:=ast k;cases op<;>first|(cases hx;done)|skip
 case shr=>
  let ⟨hn,hx⟩:=bf hx;obtain rfl:n=1:=by simpa using hn
  cases hx;exact ⟨.int k (.lit (m.fdiv 2)),by cases k<;>rfl,.lit _⟩
 case add=>cases hx;exact ⟨_,by show aT (iV k k) (V (SV.int k (Nh k (.lit m) (.lit n)))) A=_;rw[kk];rfl,.lit _⟩
 case sub=>cases hx;exact ⟨_,by show aT (iV k k) (V (SV.int k (Sb k (.lit m) (.lit n)))) A=_;rw[kk];rfl,.lit _⟩
 case mul=>cases hx;exact ⟨_,by cases k<;>rfl,.lit _⟩
 case eql=>cases hx;exact ⟨.bool (A' (m=n)),by show aT (iV k k) (mS U (V (Lm m n))) A=_;rw[kk,EJ];rfl,.lit _⟩
 case neq=>cases hx;exact ⟨.bool (!A' (m=n)),by show aT (iV k k) (mS I (V (Lm m n))) A=_;rw[kk,EJ];rfl,.lit _⟩
 case lss=>cases hx;exact ⟨.bool (A' (m<n)),by show aT (iV k k) (mS U (V (D5 m n))) A=_;rw[kk,yy];rfl,.lit _⟩
 case leq=>cases hx;exact ⟨.bool (!A' (n<m)),by show aT (iV k k) (mS I (V (D5 n m))) A=_;rw[kk,yy];rfl,.lit _⟩
 case gtr=>cases hx;exact ⟨.bool (A' (n<m)),by show aT (iV k k) (mS U (V (D5 n m))) A=_;rw[kk,yy];rfl,.lit _⟩
 case geq=>cases hx;exact ⟨.bool (!A' (m<n)),by show aT (iV k k) (mS I (V (D5 m n))) A=_;rw[kk,yy];rfl,.lit _⟩
def binS:Z6->xN->xN->G AV
 | .eql,a,b=>V (.bool (A' (a=b)))
 | .neq,a,b=>V (.bool (!A' (a=b)))
 | .lss,a,b=>V (.bool (Sx a.toList b.toList))
 | .leq,a,b=>V (.bool (Sx a.toList b.toList||a.toList==b.toList))
 | .gtr,a,b=>V (.bool (!(Sx a.toList b.toList||a.toList==b.toList)))
 | .geq,a,b=>V (.bool (!Sx a.toList b.toList))
 |_,_,_=>A
def aKL {op:Z6} {a b:xN} {x:AV} (hx:binS op a b=V x):∃v,aAK E op t a (.str b)=V v/\VA F g v x:=by
 cases op<;>first|(cases hx;done)|skip
 .cases hx;exact ⟨.bool (HU a b),rfl,.of_eq (by rw[yY])⟩
 .cases hx;exact ⟨.bool (!HU a b),rfl,.of_eq (by rw[yY])⟩
 all_goals (cases hx;exact ⟨_,rfl,.lit _⟩)
def ctor:SV->Nat
 | .wz=>1
 | .ptr _ _=>2
 | .bY=>3
 | .sl _ _ _ _=>4
 | .qA=>5
 | .mp _=>6
 | .vM=>7
 | .fn _ _ _=>8
 | .re=>9
 | .kN _ _=>10
 |_=>0
def adN:AV->cC
 | .lit v=>V (ctor v)
 | .el .. | .kX _=>V 2
 | .sl 0 _ _ _ (_::_)=>V 4
 | .mp _=>V 6
 | .fn .. =>V 8
 | .kN .. =>V 10
 |_=>A
def eqC (k a b:Nat):G Bool:=aT (Cz a k&&Cz b k) (V I) (aT ((Cz a k&&Cz b (k+1))||(Cz a (k+1)&&Cz b k)) (V U) A)
def kD:UD->cC
 | .pointer=>V 1
 | .slice _=>V 3
 | .map _ _=>V 5
 | .func=>V 7
 | .interface=>V 9
 |_=>A
def apQ {x:AV} (h:adN x=V k) (hv:VA F g v x):ctor v=k:=by
 unfold adN at h;split at h<;>first|(cases h;done)|(cases h;cases hv<;>rfl)
def atr {d:UD} (h:kD d=V k) (eq:Ey->SV->SV->G Bool) (t:Ey) (v w:SV):eqD d E eq t v w=eqC k (ctor v) (ctor w):=by
 cases d<;>first|(cases h;done)|(cases h;cases v<;>cases w<;>rfl)
def axJ {e:Nat} {Q:bB} (q:VA F g v (.sl 1 e sz n Q)):eqC 3 3 (ctor v)=V Q.isEmpty/\eqC 3 (ctor v) 3=V Q.isEmpty:=by
 cases q with
 |nil=>exact ⟨rfl,rfl⟩
 |sl hn hF hc hm=>cases Q with
  |nil=>exact absurd rfl (hm.1 rfl)
  |cons=>exact ⟨rfl,rfl⟩
def atq (E:Env) (eq:Ey->AV->AV->G Bool) (xs ys:bg):List FL->G Bool
 | []=>V I
 |f::fs=>aT f.named (aA (E.ty.get f.type) λi=>cq (vT i xs f.off) (vT i ys f.off) λx y=>cq (eq f.type x y) (atq E eq xs ys fs) λa b=>V (a&&b)) A
def aEj (E:Env) (eq:Ey->AV->AV->G Bool) (t:Ey):UD->AV->AV->G Bool
 | .bool,.lit (.bool a),.lit (.bool b)=>V (a==b)
 | .int _,.lit (.int k (.lit a)),.lit (.int k' (.lit b))=>aT (iV k k') (V (A' (a=b))) A
 | .string,.lit (.str a),.lit (.str b)=>V (A' (a=b))
 | .struct fs,x,y=>cq (O4 x) (O4 y) λxs ys=>aT (E.P.stoodInHeld t) A (atq E eq xs ys fs)
 | .slice _,.lit .bY,.sl 1 _ _ _ Q=>V Q.isEmpty
 | .slice _,.sl 1 _ _ _ Q,.lit .bY=>V Q.isEmpty
 |d,x,y=>aA (kD d) λk=>cq (adN x) (adN y) (eqC k)
def Uq (E:Env) (n:Nat):Ey->AV->AV->G Bool:=
 @Nat.rec (λ_=>Ey->AV->AV->G Bool) (λ_ _ _=>A) (λ_ eq t x y=>aA (E.ty.get t) λi=>aEj E eq t i.desc x y) n
def ajp {eq:Ey->SV->SV->G Bool} {eqL:Ey->AV->AV->G Bool} (ih:∀t v w x y b,VA F g v x->VA F g w y->eqL t x y=V b->eq t v w=V b) {vs ws:bj} {xs ys:bg} (h1:dS F g vs xs) (h2:dS F g ws ys):∀{fs:List FL} {b:Bool},atq E eqL xs ys fs=V b->LI E eq vs ws fs=V b
 | [],_,hb=>hb
 |f::fs,b,hb=>by
  let ⟨hn,hb⟩:=bf hb;let ⟨i,hi,hb⟩:=ak hb;let ⟨x,y,hx,hy,hb⟩:=bV hb;let ⟨c,d,hc,hd,hb⟩:=bV hb;let ⟨v,v1,v2⟩:=xj h1 hx;let ⟨w,w1,w2⟩:=xj h2 hy;have e1:=ih _ _ _ _ _ _ v2 w2 hc;have e2:=ajp ih h1 h2 hd;show aT f.named (aA (E.ty.get f.type) λi=>cq (jr i vs f.off) (jr i ws f.off) λx y=>andThen (eq f.type x y) (LI E eq vs ws fs)) A=_
  rw[hn,hi];show cq (jr i vs f.off) (jr i ws f.off) (λx y=>andThen (eq f.type x y) (LI E eq vs ws fs))=_
  rw[v1,w1];show andThen (eq f.type v w) (LI E eq vs ws fs)=_;rw[e1,e2];cases hb;cases c<;>rfl
def apH:∀(n:Nat) {t:Ey} {v w:SV} {x y:AV} {b:Bool},VA F g v x->VA F g w y->Uq E n t x y=V b->eqT E n t v w=V b
 |0,_,_,_,_,_,_,_,_,hb=>by cases hb
 |n+1,t,v,w,x,y,b,hv,hw,hb=>by
  let ⟨i,hi,hb⟩:=ak (show aA (E.ty.get t) (λi=>aEj E (Uq E n) t i.desc x y)=V b from hb)
  show aA (E.ty.get t) (λi=>eqD i.desc E (eqT E n) t v w)=_
  rw[hi];show eqD i.desc E (eqT E n) t v w=V b;generalize i.desc=d at hb;unfold aEj at hb;split at hb
  .cases hv;cases hw;exact hb
  .cases hv;cases hw;let ⟨hk,hb⟩:=bf hb;show aT (iV _ _) (V (Lm _ _)) A=_;rw[hk,EJ];exact hb
  .cases hv;cases hw;show V (HU _ _)=_;rw[yY];exact hb
  .let ⟨xs,ys,h1,h2,hb⟩:=bV hb;obtain ⟨vs,rfl,q1⟩:=aaW h1 hv;obtain ⟨ws,rfl,q2⟩:=aaW h2 hw;show aT (E.P.stoodInHeld t) A (LI E (eqT E n) _ _ _)=_;rw[cx] at hb ⊢;split at hb
   .cases hb
   .rename_i hs;rw[au hs];exact ajp (eqL:=Uq E n) (λ_ _ _ _ _ _ a b c=>apH n a b c) q1 q2 hb
  .cases hv;rw[atr rfl];exact (axJ hw).1.trans hb
  .cases hw;rw[atr rfl];exact (axJ hv).2.trans hb
  .let ⟨k,hk,hb⟩:=ak hb;let ⟨a,b',h1,h2,hb⟩:=bV hb;rw[atr hk,apQ h1 hv,apQ h2 hw];exact hb
def aTP (E:Env) (t:Ey) (c:Bool) (x:AV):Bool:=
 match x with
 | .agg _=> !E.P.eqGuardType E.P.depth t
 | .lit (.agg _)=> !E.P.eqGuardType E.P.depth t
 | .lit .re=>c
 | .undef=>U
 |_=>I
def atT (E:Env) (op:Z6) (t:Ey) (c:Bool) (x y:AV):G AV:=
 match x,y with
 | .lit (.int k (.lit m)),.lit (.int k' (.lit n))=>aT (iV k k') (binL op k m n) A
 | .lit (.str a),.lit (.str b)=>binS op a b
 | .lit (.int _ _),_=>A
 | .lit (.str _),_=>A
 |x,y=>aT (aTP E t c x) (match op with
  | .eql=>aA (Uq E 20 t x y) λb=>V (.bool b)
  | .neq=>aA (Uq E 20 t x y) λb=>V (.bool (!b))
  |_=>A) A
def aMX {op:Z6} {x y z:AV} (hv:VA F g v x) (hw:VA F g w y) (hz:atT E op t (isConst ox||isConst oy) x y=V z):∃u,Ta E op t ox oy v w=V u/\VA F g u z:=by
 unfold atT at hz;split at hz
 .let ⟨hk,h2⟩:=bf hz;obtain rfl:=ahE hk;cases hv;cases hw;exact aKM h2
 .cases hv;cases hw;exact aKL hz
 .cases hz
 .cases hz
 .rename_i n1 n2 n3 n4;let ⟨h1,h2⟩:=bf hz;clear hz;have hb:aEF v=(λE op t ox oy x y=>aan op E t ox oy x y)/\aEh E t ox oy v=I:=by
   cases hv with
   |lit v=>cases v<;>first|exact ⟨rfl,h1⟩|exact ⟨rfl,rfl⟩|exact (n1 _ _ rfl).elim|exact (n2 _ rfl).elim
   |undef=>cases h1
   |_=>first|exact ⟨rfl,h1⟩|exact ⟨rfl,rfl⟩
  show ∃u,aEF v E op t ox oy v w=V u/\VA F g u z;rw[hb.1];have key:∀{b:Bool},Uq E 20 t x y=V b->LH E t ox oy v w=V b:=λh2=>by
   unfold LH;rw[hb.2];exact apH 20 hv hw h2
  split at h2
  .let ⟨b,h3,h2⟩:=ak h2;cases h2;exact ⟨.bool b,by show mS U (LH E t ox oy v w)=_;rw[key h3];rfl,.lit _⟩
  .let ⟨b,h3,h2⟩:=ak h2;cases h2;exact ⟨.bool (!b),by show mS I (LH E t ox oy v w)=_;rw[key h3];rfl,.lit _⟩
  .cases h2
def unL (op:UnOp):AV->G AV
 | .lit (.bool b)=>aT (U7 op) (V (.bool (!b))) A
 | .lit (.int k (.lit n))=>aT (isNeg op) (V (.int k (k.wrap (0-n)))) A
 |_=>A
def aRW {op:UnOp} {x y:AV} (hx:unL op y=V x) (hv:VA F g v y):∃u,same (unA op v)=V (u,[])/\VA F g u x:=by
 unfold unL at hx;split at hx
 .let ⟨h1,h2⟩:=bf hx;cases h2;cases hv;exact ⟨_,by show same (aT (U7 op) (V (SV.bool _)) A)=_;rw[h1];rfl,.lit _⟩
 .let ⟨h1,h2⟩:=bf hx;cases h2;cases hv;exact ⟨_,by show same (aT (isNeg op) (V (SV.int _ _)) A)=_;rw[h1];rfl,.lit _⟩
 .cases hx
def atD:UD->AV->G AV
 | .int k,.lit (.int _ (.lit n))=>V (.int k (k.wrap n))
 | .string,.lit (.str s)=>V (.str s)
 | .string,.lit (.int _ (.lit n))=>V (.str (Utf8.encode n))
 |_,_=>A
def aKJ {src dst:Ey} {x y:AV} (hi:E.ty.get src=V i) (hi2:E.ty.get dst=V i2) (hx:atD i2.desc y=V x) (hv:VA F g v y):∃u,same (Vr E src dst v)=V (u,[])/\VA F g u x:=by
 have key:∃u,adP i2.desc v=V u/\VA F g u x:=by
  generalize i2.desc=d at hx;unfold atD at hx;split at hx<;>first|(cases hx;done)|(cases hx;cases hv;exact ⟨_,rfl,.lit _⟩)
 let ⟨u,u1,u2⟩:=key;refine ⟨u,?_,u2⟩;show same (cq (E.ty.get src) (E.ty.get dst) λ_ i=>adP i.desc v)=_
 rw[hi,hi2];show same (adP i2.desc v)=_;rw[u1];rfl
end
section
variable {F F':Hf} {g g':Gb} {Z:Nat->Ow} {c:Nat->cC} {s s':LS} {T:Tf} {H:Hf} {E:Env} {pn:Nat->Bool}
def UJ (ts:fN):List (Nat×S')->G (List (Nat×bg))
 | []=>V []
 |p::rest=>cq (F5 (dR ts p.2)) (UJ ts rest) λcs l=>V ((p.1,cs)::l)
def Qr (place:Nat->G (Nat×Nat)) (cs:bg):List (Nat×bg)->G bg
 | []=>V cs
 |p::rest=>aA (place p.1) λq=>aT (Cz (O p.2) q.2&&D' (E' q.1 q.2) (O cs)) (Qr place (iL cs q.1 p.2) rest) A
inductive PVs (F:Hf) (g:Gb):List (Nat×bj)->List (Nat×bg)->Prop
 |nil:PVs F g [] []
 |cons {j vs xs l m:_} (h:dS F g vs xs) (t:PVs F g l m):PVs F g ((j,vs)::l) ((j,xs)::m)
def Hr {x:AV} {xs:bg} (h:F5 x=V xs):x≠ .undef:=λe=>by rw[e] at h;cases h
def avt (r:Rel F g Z c s T H):∀{l:List (Nat×S')} {m:List (Nat×bg)},UJ s.ts l=V m->∃k,np T l=V k/\PVs F g k m
 | [],_,hm=>by cases hm;exact ⟨[],rfl,.nil⟩
 |p::rest,m,hm=>by
  let ⟨cs,m',h1,h2,h3⟩:=bV hm;cases h3;let ⟨v,v1,v2⟩:=r.val (x:=p.2) rfl (Hr h1);let ⟨ws,w1,w2⟩:=Ho h1 v2;let ⟨k,k1,k2⟩:=avt r h2;refine ⟨(p.1,ws)::k,?_,.cons w2 k2⟩;show aA (dy T p.2) (λv=>cq v.cells (np T rest) λcs l=>V ((p.1,cs)::l))=_
  rw[v1];show cq v.cells (np T rest) (λcs l=>V ((p.1,cs)::l))=_
  rw[w1,k1];rfl
def Qq {place:Nat->G (Nat×Nat)}:∀{k:List (Nat×bj)} {m:List (Nat×bg)} {vs:bj} {xs ys:bg},PVs F g k m->dS F g vs xs->Qr place xs m=V ys->∃ws,pj place vs k=V ws/\dS F g ws ys
 |_,_,vs,_,_,.nil,hv,hy=>by cases hy;exact ⟨vs,rfl,hv⟩
 |_,_,vs,xs,ys,.cons (j:=j) (vs:=pv) (l:=kt) h t,hv,hy=>by
  let ⟨q,h1,hy⟩:=ak hy;let ⟨h2,hy⟩:=bf hy;let ⟨ws,w1,w2⟩:=Qq t (hv.eX h q.1) hy;refine ⟨ws,?_,w2⟩;show aA (place j) (λq=>aT (Cz (O pv) q.2&&D' (E' q.1 q.2) (O vs)) (pj place (eX vs q.1 pv) kt) A)=_
  rw[h1];show aT (Cz (O pv) q.2&&D' (E' q.1 q.2) (O vs)) (pj place (eX vs q.1 pv) kt) A=_;rw[h.length,hv.length,h2];exact w1
def ajF (E:Env) (z:bg) (jH:List (Nat×bg)):UD->G bg
 | .array _ e=>aA (E.ty.get e) λie=>Qr (ve ie.size) z jH
 | .struct fs=>Qr (UG E fs) z jH
 |_=>A
def aEC {k:List (Nat×bj)} {m:List (Nat×bg)} {ys:bg} (hi:E.ty.get t=V i) (hk:PVs F g k m) (hy:ajF E (yg i.zero) m i.desc=V ys):∃u,same (OG E t k)=V (u,[])/\VA F g u (.agg ys):=by
 have key:∃ws,Vv i.desc E i.zero k=V (.agg ws)/\dS F g ws ys:=by
  generalize i.desc=d at hy;unfold ajF at hy;split at hy
  .let ⟨ie,pi,hy⟩:=ak hy;let ⟨ws,w1,w2⟩:=Qq hk tU hy;refine ⟨ws,?_,w2⟩;show aA (E.ty.get _) (λie=>OK (pj (ve ie.size) i.zero k))=_
   rw[pi];show OK (pj (ve ie.size) i.zero k)=_;rw[w1];rfl
  .let ⟨ws,w1,w2⟩:=Qq hk tU hy;refine ⟨ws,?_,w2⟩;show OK (pj (UG E _) i.zero k)=_;rw[w1];rfl
  .cases hy
 let ⟨ws,w1,w2⟩:=key;refine ⟨.agg ws,?_,.agg w2⟩;show same (aA (E.ty.get t) λi=>Vv i.desc E i.zero k)=_
 rw[hi];show same (Vv i.desc E i.zero k)=_;rw[w1];rfl
def arrE:UD->G (Nat×Ey)
 | .array n e=>V (n,e)
 |_=>A
def auf (E:Env) (t:Ey) (k:Nat):G TI:=aA (E.ty.get t) λi=>aA (arrE i.desc) λq=>aA (E.ty.get q.2) λie=>aT (D' (S6 k) q.1) (V ie) A
def aaI {ie:TI} (h:auf E t k=V ie):∃i n e,E.ty.get t=V i/\i.desc= .array n e/\E.ty.get e=V ie/\D' (S6 k) n=I:=by
 let ⟨i,hi,h⟩:=ak h;let ⟨q,hq,h⟩:=ak h;let ⟨ie',pi,h⟩:=ak h;let ⟨hk,h⟩:=bf h;cases h;cases hd:i.desc<;>rw[hd] at hq<;>cases hq
 exact ⟨i,_,_,hi,hd,pi,hk⟩
def aCM (bs:de):UD->AV->G Int
 | .slice _,.sl _ _ _ n _=>V (n:Int)
 | .slice _,.lit .bY=>V 0
 | .slice _,.ms _ _ _ n=>V (n:Int)
 | .string,.lit (.str b)=>V (b.size:Int)
 | .map _ _,.mp K=>(match lk K bs with|some (.map es)=>V (O es:Int)|_=>A)
 | .map _ _,.lit .qA=>V 0
 |_,_=>A
def aMG {d:UD} {n:Int} {y:AV} (r:Rel F g Z c s T H) (hn:aCM s.bs d y=V n) (hv:VA F g v y):Dk d v H=V (.int .i64 (.lit n)):=by
 have key:∀{n':Nat},SF v=V n'->n=(n':Int)->aA (SF v) (λn=>V (xC n))=V (SV.int .i64 (.lit n)):=λ{n'} h1 h2=>by
  rw[h1,h2];rfl
 unfold aCM at hn;split at hn
 .cases hn;rename_i n0 Q;exact key (n':=n0) (by cases hv<;>rfl) rfl
 .cases hn;cases hv;rfl
 .cases hn;rename_i n0;exact key (n':=n0) (by cases hv<;>rfl) rfl
 .cases hn;cases hv;rfl
 .split at hn
  .rename_i K _ es hb;cases hn;cases hv;let ⟨q,_,q3⟩:=r.bx K _ hb;generalize Z K=ae at q q3;cases q with
   | @map _ ms cl hk hv hw=>
   show aA (ln (H (g K).n)) (λp=>V (xC (O p.1)))=_
   rw[(q3 ((g K).n,.map ms cl) am).1]
   show V (xC (O ms))=_;rw[show O ms=O es by simpa using hk.length];rfl
  .cases hn
 .cases hn;cases hv;rfl
 .cases hn
def Yd (mx:Bool):AV->AV->G AV
 | .lit (.int k (.lit m)),.lit (.int k' (.lit n))=>aT (iV k k') (V (.int k (aT mx (if m<n then n else m) (if n<m then n else m)))) A
 |_,_=>A
def ayI {x y z:AV} (hz:Yd mx x y=V z) (hv:VA F g v x) (hw:VA F g w y):∃u,same (U3 E mx v w)=V (u,[])/\VA F g u z:=by
 unfold Yd at hz;split at hz
 .let ⟨hk,hz⟩:=bf hz;cases hz;cases hv;cases hw;rename_i k m k' n;refine ⟨_,?_,.lit _⟩;cases mx
  .show V (SV.int k (aT (D5 n m) (.lit n) (.lit m)),[])=V (SV.int k (.lit (if n<m then n else m)),[])
   rw[yy,cx];by_cases hc:n<m<;>simp[hc]
  .show V (SV.int k (aT (D5 m n) (.lit n) (.lit m)),[])=V (SV.int k (.lit (if m<n then n else m)),[])
   rw[yy,cx];by_cases hc:m<n<;>simp[hc]
 .cases hz
def bltL (E:Env) (s:LS) (b:Builtin) (aa:List S') (ts:List Ey):G AV:=
 match b,aa,ts with
 | .len,[a],[t]=>aA (E.ty.get t) λi=>aA (aCM s.bs i.desc (dR s.ts a)) λn=>V (.int .i64 n)
 | .min,[a,b],_=>Yd U (dR s.ts a) (dR s.ts b)
 | .max,[a,b],_=>Yd I (dR s.ts a) (dR s.ts b)
 |_,_,_=>A
def Fs (x:AV):G AV:=aT (tW x) A (V x)
def oX {x y:AV} (h:Fs x=V y):x=y/\x≠ .undef:=by
 unfold Fs at h;cases hx:tW x with
 |true=>rw[hx] at h;cases h
 |false=>rw[hx] at h;cases h;exact ⟨rfl,akE hx⟩
def aSx:AV->Bool
 | .el _ _ _ _| .kX _| .fn _ _ _=>I
 |_=>U
def okM (ok:Bool) (v:AV) (b:Bool):AV:=aT ok (.dh [v,.bool b]) v
def atb (i:TI) (ok:Bool):G AV:=aT ok (aA (vT i (yg i.zero) 0) λz=>V (.dh [z,.bool U])) A
def aEG (t:Ey) (i:TI) (ok:Bool):AV->G AV
 | .kN t2 u=>aT (Cz t2 t) (V (okM ok u I)) (atb i ok)
 | .lit .re=>atb i ok
 |_=>A
def apF {ok:Bool} {x:AV} (hx:atb i ok=V x):∃u,LC i ok=V u/\VA F g u x:=by
 let ⟨h1,hx⟩:=bf hx;let ⟨z,hz,hx⟩:=ak hx;cases hx;let ⟨u,u1,u2⟩:=xj (F:=F) (g:=g) tU hz;exact ⟨.dh [u,.bool U],by unfold LC;rw[h1,u1];rfl,.dh (.cons u2 (.cons (.lit _) .nil))⟩
def aRj {ok:Bool} {x y:AV} (hx:aEG t i ok y=V x) (hv:VA F g v y):∃u,asserted v t i ok=V u/\VA F g u x:=by
 unfold aEG at hx;split at hx
 .cases hv with| @kN _ _ v' _ h=>
  show ∃u,aT (Cz _ t) (V (MP ok v' I)) (LC i ok)=V u/\_;rw[cx] at hx ⊢;split at hx
  .rename_i e;cases hx;rw[ax e];refine ⟨_,rfl,?_⟩;cases ok
   .exact h
   .exact .dh (.cons h (.cons (.lit _) .nil))
  .rename_i e;rw[au e];exact apF hx
 .cases hv;exact apF hx
 .cases hx
def UF (E:Env) (s:LS) (op:Op):G AV:=
 match op with
 | .move a=>Fs (dR s.ts a)
 | .assign a=>Fs (dR s.ts a)
 | .pick c a b=>(match dR s.ts c with| .lit (.bool t)=>Fs (dR s.ts (aT t a b))|_=>A)
 | .nilCheck a=>aT (aSx (dR s.ts a)) (V (dR s.ts a)) A
 | .load t a=>aA (E.ty.get t) λi=>aA (Fs (dR s.ts a)) λy=>Lh i s.bs y
 | .fieldAddr t a f=>aA (Jx E t f) λp=>aA (Fs (dR s.ts a)) λy=>aAr p y
 | .field t a f=>aA (Jx E t f) λp=>aA (Fs (dR s.ts a)) λy=>aA (O4 y) λcs=>vT p.2 cs p.1
 | .extract a i=>(match dR s.ts a with| .dh xs=>xs[i]? |_=>A)
 | .binOp op t a b _=>cq (Fs (dR s.ts a)) (Fs (dR s.ts b)) λx y=>atT E op t (isConst a||isConst b) x y
 | .unOp op _ a=>aA (Fs (dR s.ts a)) λy=>unL op y
 | .convert src dst a=>cq (E.ty.get src) (E.ty.get dst) λ_ i2=>aA (Fs (dR s.ts a)) λy=>atD i2.desc y
 | .makeFunc (.func f) a c=>aT (sd (rF s.ts a.toList)) (aT (sd (rF s.ts c.toList)) (V (.fn f (rF s.ts a.toList) (rF s.ts c.toList))) A) A
 | .makeInterface t a=>aA (E.ty.get t) λi=>aT (G3 i.desc) A (aA (Fs (dR s.ts a)) λy=>V (.kN t y))
 | .typeAssert a _ t ok=>aA (E.ty.get t) λi=>aT (G3 i.desc) A (aA (Fs (dR s.ts a)) λy=>aEG t i ok y)
 | .build t jp=>cq (E.ty.get t) (UJ s.ts jp.toList) λi m=>aA (ajF E (yg i.zero) m i.desc) λys=>V (.agg ys)
 | .index t a ix=>(match dR s.ts a,dR s.ts ix with
  | .agg cs,.lit (.int _ (.lit (.ofNat k)))=>aA (auf E t k) λie=>vT ie cs (N' k ie.size)
  |_,_=>A)
 | .indexAddr t a ix=>(match dR s.ts a,dR s.ts ix with
  | .el K z 0 off,.lit (.int _ (.lit (.ofNat k)))=>aA (auf E t k) λie=>V (.el K z 0 (E' off (N' k ie.size)))
  |_,_=>A)
 | .call c=>(match c.callee with
  | .builtin b=>aT (sd (rF s.ts c.args.toList)) (bltL E s b c.args.toList c.argTypes.toList) A
  |_=>A)
 |_=>A
def ayk {op:Op} {x:AV} (hx:UF E s op=V x):Ok E pn op s s x []:=by
 unfold UF at hx;split at hx
 .obtain ⟨rfl,h2⟩:=oX hx;exact .un (f:=λ_ v=>V (v,[])) (λ_ _ _=>rfl) rfl h2 λr hv=>⟨_,rfl,hv⟩
 .obtain ⟨rfl,h2⟩:=oX hx;exact .un (f:=λ_ v=>V (v,[])) (λ_ _ _=>rfl) rfl h2 λr hv=>⟨_,rfl,hv⟩
 .split at hx
  .rename_i t hc;obtain ⟨rfl,h2⟩:=oX hx;refine .val λ{F g Z c T H} r=> ?_
   obtain ⟨v,v1,v2⟩:=r.val hc am
   obtain ⟨w,w1,w2⟩:=r.val rfl h2;cases v2;refine ⟨w,λ_=> ?_,w2⟩
   show aA (dy T _) (λv=>aA (vr v) λb'=>one T (aT b' _ _) λv=>V (v,[]))=_
   rw[v1];show one T (aT t _ _) (λv=>V (v,[]))=_
   rw[one,w1];rfl
  .cases hx
 .obtain ⟨h1,hx⟩:=bf hx;cases hx;refine .un (f:=λ_ v=>same (adt v)) (λ_ _ _=>rfl) rfl (λe=>by rw[e] at h1;cases h1) λ{F g Z c T H v} r hv=>⟨v,?_,hv⟩
  generalize dR s.ts _=y at h1 hv;cases y<;>first|(cases h1;done)|(cases hv<;>rfl)
 .obtain ⟨i,hi,hx⟩:=ak hx;obtain ⟨y,hy,hx⟩:=ak hx;obtain ⟨rfl,hn⟩:=oX hy;exact .un (f:=λH v=>same (sy E H _ v)) (λ_ _ _=>rfl) rfl hn λr hv=>apt hi hx r hv
 .obtain ⟨p,hp,hx⟩:=ak hx;obtain ⟨y,hy,hx⟩:=ak hx;obtain ⟨rfl,hn⟩:=oX hy;exact .un (f:=λ_=>sU E _ _) (λ_ _ _=>rfl) rfl hn λr hv=>aDR hp hx hv
 .obtain ⟨p,hp,hx⟩:=ak hx;obtain ⟨y,hy,hx⟩:=ak hx;obtain ⟨rfl,hn⟩:=oX hy;obtain ⟨cs,hc,hx⟩:=ak hx;exact .un (f:=λ_=>EH E _ _) (λ_ _ _=>rfl) rfl hn λr hv=>by
   obtain ⟨vs,rfl,q⟩:=aaW hc hv;exact aDQ hp q hx
 .split at hx
  .rename_i xs ha;exact .un (f:=λ_ v=>aA (Ua v) λvs=>same (vs[_]?)) (λ_ _ _=>rfl) ha am λr hv=>by
    cases hv with
    | @dh _ vs _ q=>
    obtain ⟨u,u1,u2⟩:=q.get hx;exact ⟨u,by show same (vs[_]?)=_;rw[u1];rfl,u2⟩
  .cases hx
 .obtain ⟨y,z,hy,hz,hx⟩:=bV hx;obtain ⟨rfl,hn⟩:=oX hy;obtain ⟨rfl,hm⟩:=oX hz;exact .bi (f:=λv u=>same (Ta E _ _ _ _ v u)) (λ_ _ _=>rfl) rfl hn rfl hm λhv hw=>by
   obtain ⟨u,u1,u2⟩:=aMX hv hw hx;exact ⟨u,by rw[u1];rfl,u2⟩
 .obtain ⟨y,hy,hx⟩:=ak hx;obtain ⟨rfl,hn⟩:=oX hy;exact .un (f:=λ_ v=>same (unA _ v)) (λ_ _ _=>rfl) rfl hn λr hv=>aRW hx hv
 .obtain ⟨i,i2,h1,h2,hx⟩:=bV hx;obtain ⟨y,hy,hx⟩:=ak hx;obtain ⟨rfl,hn⟩:=oX hy;exact .un (f:=λ_ v=>same (Vr E _ _ v)) (λ_ _ _=>rfl) rfl hn λr hv=>aKJ h1 h2 hx hv
 .rename_i f a c;obtain ⟨h1,hx⟩:=bf hx;obtain ⟨h2,hx⟩:=bf hx;cases hx;refine .val λ{F g Z _ T H} r=> ?_
  obtain ⟨vs,v1,v2⟩:=r.gN h1;obtain ⟨ws,w1,w2⟩:=r.gN h2;refine ⟨.fn (.func f) vs ws,λ_=> ?_,.fn _ v2 w2⟩
  show aT (OJ (.func f)) (cq (gN T a.toList) (gN T c.toList) λl m=>V (SV.fn (.func f) l m,[])) A=_
  rw[v1,w1];rfl
 .rename_i t a;obtain ⟨i,hi,hx⟩:=ak hx;rw[cx] at hx;split at hx
  .cases hx
  .rename_i hd;obtain ⟨y,hy,hx⟩:=ak hx;obtain ⟨rfl,hn⟩:=oX hy;cases hx;exact .un (f:=λ_=>ads E t) (λ_ _ _=>rfl) rfl hn λ{F g Z c T H v} r hv=>⟨.kN t v,by show aA (E.ty.get t) (λi=>aT (G3 i.desc) A (V (SV.kN t v,[])))=_;rw[hi];show aT (G3 i.desc) A _=_;rw[cx,au hd],.kN t hv⟩
 .rename_i a _ t ok;obtain ⟨i,hi,hx⟩:=ak hx;rw[cx] at hx;split at hx
  .cases hx
  .rename_i hd;obtain ⟨y,hy,hx⟩:=ak hx;obtain ⟨rfl,hn⟩:=oX hy;exact .un (f:=λ_=>La E t ok) (λ_ _ _=>rfl) rfl hn λ{F g Z c T H v} r hv=>by
    obtain ⟨u,u1,u2⟩:=aRj hx hv;exact ⟨u,by show aA (E.ty.get t) (λi=>aT (G3 i.desc) A (same (asserted v t i ok)))=_;rw[hi];show aT (G3 i.desc) A (same (asserted v t i ok))=_;rw[cx,au hd,u1];rfl,u2⟩
 .obtain ⟨i,m,h1,h2,hx⟩:=bV hx;obtain ⟨ys,h3,hx⟩:=ak hx;cases hx;refine .val λ{F g Z c T H} r=> ?_
  obtain ⟨k,k1,k2⟩:=avt r h2;obtain ⟨u,u1,u2⟩:=aEC h1 k2 h3;refine ⟨u,λ_=> ?_,u2⟩
  show aA (np T _) (λjH=>same (OG E _ jH))=_
  rw[k1];exact u1
 .split at hx
  .rename_i cs _ k ha CO;obtain ⟨ie,pi,hx⟩:=ak hx;obtain ⟨i,n,e,h1,h2,h3,h4⟩:=aaI pi;exact .bi (f:=λv u=>aA (ph u) λk=>Bu E _ k v) (λ_ _ _=>rfl) ha am CO am λhv hw=>by
    cases hv with
    | @agg _ vs _ q=>
    cases hw;obtain ⟨u,u1,u2⟩:=xj q hx;refine ⟨u,?_,u2⟩;show aA (E.ty.get _) (λi=>aiL i.desc E k (.agg vs))=_
    rw[h1];show aiL i.desc E k (.agg vs)=_;rw[h2];show cq (V vs) (E.ty.get e) (λcs ie=>aT (D' (S6 k) n) (same (jr ie cs (N' k ie.size))) A)=_
    rw[h3];show aT (D' (S6 k) n) (same (jr ie vs (N' k ie.size))) A=_;rw[h4,u1];rfl
  .cases hx
 .split at hx
  .rename_i K z off _ k ha CO;obtain ⟨ie,pi,hx⟩:=ak hx;obtain ⟨i,n,e,h1,h2,h3,h4⟩:=aaI pi;cases hx;exact .bi (f:=λv u=>aA (ph u) λk=>same (sA E _ v k)) (λ_ _ _=>rfl) ha am CO am λ{F g v w} hv hw=>by
    cases hv;cases hw;refine ⟨.ptr (g K).n (0*z+(off+k*ie.size)),?_,.el K z 0 _ (by assumption)⟩
    show same (aA (E.ty.get _) λi=>akC i.desc E (.ptr (g K).n (0*z+off)) k)=_
    rw[h1];show same (akC i.desc E (.ptr (g K).n (0*z+off)) k)=_;rw[h2];show same (aT (D' (S6 k) n) (aA (E.ty.get e) λie=>V (SV.ptr (g K).n (E' (0*z+off) (N' k ie.size)))) A)=_
    rw[h4,h3];show V (SV.ptr (g K).n (0*z+off+k*ie.size),[])=_;rw[il]
  .cases hx
 .split at hx
  .rename_i c _ b hc;obtain ⟨h1,hx⟩:=bf hx;refine .val λ{F g Z v7 T H} r=> ?_
   obtain ⟨vs,v1,v2⟩:=r.gN h1;have key:∃u,(∀new,oF E H new b vs c.argTypes.toList=V (u,[]))/\VA F g u x:=by
    generalize c.args.toList=aa at v2 hx;generalize c.argTypes.toList=ts at hx;unfold bltL at hx;split at hx
    .obtain ⟨i,hi,hx⟩:=ak hx;obtain ⟨n,hn,hx⟩:=ak hx;cases hx;cases v2 with|cons q1 q2=>
     cases q2;refine ⟨_,λ_=> ?_,.lit _⟩
     show aA (E.ty.get _) (λi=>same (Dk i.desc _ H))=_
     rw[hi];show same (Dk i.desc _ H)=_;rw[aMG r hn q1];rfl
    .cases v2 with|cons q1 q2=>
     cases q2 with|cons q2 q3=>
     cases q3;obtain ⟨u,u1,u2⟩:=ayI hx q1 q2;exact ⟨u,λ_=>u1,u2⟩
    .cases v2 with|cons q1 q2=>
     cases q2 with|cons q2 q3=>
     cases q3;obtain ⟨u,u1,u2⟩:=ayI hx q1 q2;exact ⟨u,λ_=>u1,u2⟩
    .cases hx
   obtain ⟨u,u1,u2⟩:=key;refine ⟨u,λnew=> ?_,u2⟩
   show qj E T H new c=_;unfold qj;rw[hc];show aA (gN T c.args.toList) (λaa=>oF E H new b aa c.argTypes.toList)=_
   rw[v1];exact u1 new
  .cases hx
 .cases hx
def elN {id f:Nat} {cp:Cp} (e:g K=⟨id,cp,I⟩):VA F g (.ptr id f) (.el K 0 0 f):=by
 have:=VA.el (F:=F) (g:=g) K 0 0 f (by rw[e])
 rwa[e,cN] at this
def sw {id s:Nat} {cp:Cp} (e:g K=⟨id,cp,I⟩):VA F g (.sl id 0 n cp) (.ms K s 0 n):=by
 have:=VA.ms (F:=F) (g:=g) (K:=K) s 0 n (by rw[e])
 rw[e,nX] at this;cases cp<;>exact this
def ata {id:Nat} {cp:Cp} {xs:bg} (h:g K=⟨id,cp,I⟩) (q:dS F g svs xs):fg F g K (.flat e xs) [(id,.cells e svs)]:=by
 have:=fg.flat (K:=K) (e:=e) q;rwa[h] at this
def od {id s:Nat} {cp:Cp} {Q:bB} (h:g K=⟨id,cp,I⟩) (hz:z=I->Q≠ []) (hu:∀r∈Q,O r=s) (hc:Az e s (O Q) (O svs) cp) (q:dS F mn (svs.take (O Q*s)) Q.flatten):fg F g K (.rows z e s Q) [(id,.cells e svs)]:=by
 have:=fg.bG (F:=F) (g:=g) (K:=K) (z:=z) (e:=e) (by rw[h]) hz hu (by rw[h];exact hc) (TR.tQ hu q) (o:= []) (λp hp=>by cases hp)
 rwa[h] at this
def CX (sz:Nat):Nat->bg->bB
 |0,_=> []
 |n+1,cs=>cs.take sz::CX sz n (cs.drop sz)
def ajC {sz:Nat}:∀{n:Nat} {cs:bg},O cs=n*sz->O (CX sz n cs)=n/\(∀r∈CX sz n cs,O r=sz)/\(CX sz n cs).flatten=cs
 |0,cs,hl=>by
  rw[nX] at hl;rw[qg.1 hl];exact ⟨rfl,λr hr=>(by cases hr),rfl⟩
 |n+1,cs,hl=>by
  rw[gz,tC] at hl;let ⟨a,b,c⟩:=ajC (sz:=sz) (n:=n) (cs:=cs.drop sz) (by rw[iz];omega)
  refine ⟨by show O (CX sz n (cs.drop sz))+1=_;rw[a],λr hr=> ?_,?_⟩
  .rcases cU.1 (show r∈cs.take sz::CX sz n (cs.drop sz) from hr) with rfl|hr
   .rw[dv];omega
   .exact b r hr
  .show cs.take sz++(CX sz n (cs.drop sz)).flatten=cs;rw[c,vC]
def UX (z:bg):Nat->bg
 |0=> []
 |n+1=>z++UX z n
def ahG {z:bj} {x:bg} (hz:dS F g z x):∀n,dS F g (rep z n) (UX x n)
 |0=>.nil
 |n+1=>hz.append (ahG hz n)
def aac (z:bg):∀n,O (UX z n)=n*O z
 |0=>by simp[UX]
 |n+1=>by show O (z++UX z n)=_;rw[gS,aac z n,gz,tC,Et]
def ace {place:Nat->G (Nat×Nat)}:∀{m:List (Nat×bg)} {xs ys:bg},Qr place xs m=V ys->O ys=O xs
 | [],_,_,hy=>by cases hy;rfl
 |p::rest,xs,ys,hy=>by
  let ⟨q,h1,hy⟩:=ak hy;let ⟨h2,hy⟩:=bf hy;rw[ace hy];rw[bI] at h2;have e1:O p.2=q.2:=(f9 _ _).1 h2.1;have e2:q.1+q.2<=O xs:=wc h2.2;unfold iL;rw[gS,gS,dv,iz,show E' q.1 (O p.2)=q.1+O p.2 from rfl];omega
def abd {ie:TI} (h:nv ie=I):O ie.zero=ie.size:=by
 unfold nv at h;rw[bI,bI] at h;exact (f9 _ _).1 h.2.2
def Ea (E:Env) (t:Ey):G (Ey×TI):=aA (E.ty.get t) λi=>aA (px i.desc) λe=>aA (E.ty.get e) λie=>V (e,ie)
def sG {p:Ey×TI} (h:Ea E t=V p):∃i,E.ty.get t=V i/\px i.desc=V p.1/\E.ty.get p.1=V p.2:=by
 let ⟨i,hi,h⟩:=ak h;let ⟨e,he,h⟩:=ak h;let ⟨ie,pi,h⟩:=ak h;cases h;exact ⟨i,hi,he,pi⟩
def ahU (E:Env) (s:LS) (K:Nat) (op:Op):G (Bx×AV):=
 match op with
 | .box e a=>aA (F5 (dR s.ts a)) λxs=>aT (nN K (l8 xs)) A (V (.flat e xs,.loc K 0))
 | .alloc e=>aA (E.ty.get e) λi=>V (.flat e (yg i.zero),.loc K 0)
 | .buildSlice t len jp=>cq (Ea E t) (UJ s.ts jp.toList) λp m=>aT (nv p.2&&D' (N' len p.2.size) 16777216) (aA (Qr (ve p.2.size) (UX (yg p.2.zero) len) m) λys=>
   aT (l8 ys).isEmpty (V (.rows U p.1 p.2.size (CX p.2.size len ys),.ms K p.2.size 0 len)) (aT (Cz len 1 && !nN K (l8 ys)) (V (.flat p.1 ys,.ms K p.2.size 0 1)) A)) A
 | .makeMap _ A=>V (.map [],.mp K)
 | .range t a=>aA (E.ty.get t) λi=>aT (Jo i.desc) (match dR s.ts a with| .lit (.str b)=>V (.iter b 0,.it K)|_=>A) A
 |_=>A
def Qd {l:bQ} (h:nN K l=U):∀k∈l,k≠K:=λk hm e=>by
 rw[(uE K l).2 (e ▸ hm)] at h;cases h
def ayj {op:Op} {p:Bx×AV} (hf:s.free K) (hp:pn K=U) (hx:ahU E s K op=V p):Ok E pn op s (s.set K p.1) p.2 [K]:=by
 unfold ahU at hx;split at hx
 .rename_i e a;let ⟨xs,h1,hx⟩:=ak hx;rw[cx] at hx;split at hx
  .cases hx
  .rename_i hm;cases hx;refine .lay hp hf λ{F g Z c T H new} r=> ?_
   let ⟨v,v1,v2⟩:=r.val rfl (Hr h1);let ⟨vs,w1,w2⟩:=Ho h1 v2;refine ⟨.ptr new 0,.cells e vs,.k 1,?_,λg' e1 e2=>⟨elN e1,ata e1 (w2.same (.refl F) λk hk=>e2 k (Qd (by simpa using hm) k hk))⟩⟩
   show one T a (asc new e)=_;rw[one,v1];show aA v.cells _=_;rw[w1];rfl
 .rename_i e;let ⟨i,h1,hx⟩:=ak hx;cases hx;exact .lay hp hf λ{F g Z c T H new} r=>⟨.ptr new 0,.cells e i.zero,.k 1,by show aA (E.ty.get e) _=_;rw[h1];rfl,λg' e1 e2=>⟨elN e1,ata e1 tU⟩⟩
 .rename_i t len jp;let ⟨q,m,h1,h2,hx⟩:=bV hx;let ⟨h3,hx⟩:=bf hx;let ⟨ys,h4,hx⟩:=ak hx;let ⟨i,hi,he,pi⟩:=sG h1;have qH:=(j3.1 h3).1;have li:O ys=len*q.2.size:=by rw[ace h4,aac,yg,ku,abd qH]
  have run:∀{F:Hf} {g:Gb} {Z:Nat->Ow} {c:Nat->cC} {T:Tf} {H:Hf} {new:Nat},Rel F g Z c s T H->∃ws,dS F g ws ys/\vf E (.buildSlice t len jp) T H new=V (.sl new 0 len (.k len),[(new,V (.cells q.1 ws))]):=λ{F g Z c T H new} r=>by
   let ⟨k,k1,k2⟩:=avt r h2;let ⟨ws,w1,w2⟩:=Qq k2 (ahG tU len) h4;refine ⟨ws,w2,?_⟩;show aA (np T jp.toList) (λjH=>rb E new t len jH)=_
   rw[k1];show aA (E.ty.get t) _=_;rw[hi];show aA (px i.desc) _=_;rw[he];show aA (E.ty.get q.1) _=_;rw[pi];show aT (nv q.2&&D' (N' len q.2.size) 16777216) (aA (pj (ve q.2.size) (rep q.2.zero len) k) λcs=>V (SV.sl new 0 len (.k len),[(new,V (SO.cells q.1 cs))])) A=_
   rw[h3,w1];rfl
  rw[cx] at hx;split at hx
  .rename_i h5;cases hx;let ⟨c1,c2,c3⟩:=ajC li;refine .lay hp hf λ{F g Z c T H new} r=> ?_
   let ⟨ws,w2,w3⟩:=run (new:=new) r;refine ⟨_,_,.k len,w3,λg' e1 e2=>⟨sw e1,od e1 (λe=>by cases e) c2 (by rw[c1];exact ⟨cM _,by rw[w2.length,li]⟩) ?_⟩⟩
   rw[c1,c3,jc (by rw[w2.length,li];exact cM _)]
   exact w2.tR h5
  .let ⟨h6,hx⟩:=bf hx;cases hx;rw[bI] at h6;obtain rfl:=(f9 _ _).1 h6.1;refine .lay hp hf λ{F g Z c T H new} r=> ?_
   let ⟨ws,w2,w3⟩:=run (new:=new) r;exact ⟨_,_,.k 1,w3,λg' e1 e2=>⟨sw e1,ata e1 (w2.same (.refl F) λk hk=>e2 k (Qd (by simpa using h6.2) k hk))⟩⟩
 .cases hx;refine .lay hp hf λ{F g Z c T H new} r=>⟨.mp new,.map [] 0,.k 0,rfl,λg' e1 e2=>⟨?_,?_⟩⟩
  .have:=VA.mp (F:=F) (g:=g') K;rwa[e1] at this
  .have:=fg.map (F:=F) (g:=g') (K:=K) (es:= []) (ms:= []) (c:=0) .nil .nil ⟨am,am⟩
   rwa[e1] at this
 .rename_i t a;let ⟨i,h1,hx⟩:=ak hx;let ⟨h2,hx⟩:=bf hx;split at hx
  .rename_i b ha;cases hx;refine .lay hp hf λ{F g Z c T H new} r=> ?_
   let ⟨v,v1,v2⟩:=r.val ha am
   cases v2;refine ⟨.ptr new 0,.qR b 0,.k 0,?_,λg' e1 e2=>⟨?_,?_⟩⟩
   .show one T a (Bt E H new t)=_;rw[one,v1];show aA (E.ty.get t) _=_;rw[h1];show aA (Jd i.desc (.str b) H) _=_;generalize i.desc=d at h2;cases d<;>first|(cases h2;done)|rfl
   .have:=VA.it (F:=F) (g:=g') K;rwa[e1] at this
   .have:=fg.iter (F:=F) (g:=g') (K:=K) (s:=b) (pos:=0);rwa[e1] at this
  .cases hx
 .cases hx
def UE (E:Env) (s:LS) (op:Op):G (Nat×Bx):=
 match op with
 | .store t a c=>cq (E.ty.get t) (F5 (dR s.ts c)) λi xs=>(match dR s.ts a with
  | .el K _ j off=>(match lk K s.bs with
   |some (.flat e cs)=>zer j (aT (Cz (O xs) i.size&&D' (E' off (O xs)) (O cs)) (V (K,.flat e (iL cs off xs))) A)
   |_=>A)
  |_=>A)
 |_=>A
def abL {id:Nat} (hi:E.ty.get t=V i) (hw:w.cells=V vs) (hH:H id=V (.cells e svs)) (hl:(Cz (O vs) i.size&&D' (E' off (O vs)) (O svs))=I):
  unit (xK E H t w (.ptr id off))=V (.dh [],[(id,V (.cells e (eX svs off vs)))]):=by
 show unit (uQ (E.ty.get t) w.cells (ny (H id)) λi xs p=>aT (Cz (O xs) i.size&&D' (E' off (O xs)) (O p.2)) (V [(id,V (SO.cells p.1 (eX p.2 off xs)))]) A)=_
 rw[hi,hw,hH];show unit (aT (Cz (O vs) i.size&&D' (E' off (O vs)) (O svs)) (V [(id,V (SO.cells e (eX svs off vs)))]) A)=_;rw[hl];rfl
def ayi {op:Op} {p:Nat×Bx} (hx:UE E s op=V p):Ok E pn op s (s.set p.1 p.2) (.dh []) [p.1]:=by
 unfold UE at hx;split at hx
 .rename_i t a b;let ⟨i,xs,h1,h2,hx⟩:=bV hx;split at hx
  .rename_i K z j off ha;split at hx
   .rename_i e cs hb;obtain ⟨rfl,hx⟩:=afA hx;let ⟨h3,hx⟩:=bf hx;cases hx;refine .wr hb λ{F g Z c T H} r=> ?_
    let ⟨v,v1,v2⟩:=r.val ha am
    let ⟨w,w1,w2⟩:=r.val rfl (Hr h2);let ⟨vs,u1,u2⟩:=Ho h2 w2;cases v2;let ⟨svs,hφ,q,hH⟩:=r.flat hb;refine ⟨.dh [],_,.cells e (eX svs off vs),[],[],hφ,λnew=> ?_,.dh .nil,.flat (q.eX u2 off),.refl _⟩
    show two T a b (λa v=>unit (xK E H t v a))=_
    rw[two,v1,w1];show unit (xK E H t w (.ptr (g K).n (0*z+off)))=_;rw[nX,cN];exact abL h1 u1 hH (by rw[u2.length,q.length];exact h3)
   .cases hx
  .cases hx
 .cases hx
end
section
variable {F F':Hf} {g g':Gb} {Z:Nat->Ow} {c:Nat->cC} {s s':LS} {T:Tf} {H:Hf} {E:Env} {pn:Nat->Bool}
variable {f N:Nat} {pp:Type}
def fM {x:G Y} {a:Y} {f:Y->G γ} (h:x=V a):aA x f=f a:=by rw[h];rfl
def F7 {x:G Y} {y:G pp} {a:Y} {b:pp} {f:Y->pp->G γ} (h:x=V a) (k:y=V b):cq x y f=f a b:=by rw[h,k];rfl
def Hi {Y:Type} {s:Nat}:∀{Q:List (List Y)},(∀r∈Q,O r=s)->∀l,(Q.drop l).flatten=Q.flatten.drop (l*s)
 |_,_,0=>am
 | [],_,l+1=>am
 |r::Q,hu,l+1=>by
  rw[List.drop_succ_cons,Hi (λq hq=>hu q (by simp[hq])) l,qQ,gz,tC,Et,<-tF,List.drop_left' (hu r am)]
def Hh {Y:Type} {s:Nat}:∀{Q:List (List Y)},(∀r∈Q,O r=s)->∀l,(Q.take l).flatten=Q.flatten.take (l*s)
 |_,_,0=>am
 | [],_,l+1=>am
 |r::Q,hu,l+1=>by
  rw[asX,qQ,Hh (λq hq=>hu q (by simp[hq])) l,qQ,gz,tC,Et,<-hu r am,IP]
def ajm {s lo:Nat} {Q:List (List Y)} (hu:∀r∈Q,O r=s):((Q.drop lo).take n).flatten=(Q.flatten.drop (lo*s)).take (n*s):=by
 rw[Hh (λr hr=>hu r (nh hr)),Hi hu]
def Uv {s:Nat} {Q:List (List Y)} {R:List Y} (hj:Q[j]? =V R):j*s+s<=O Q*s:=by
 have:=jv s (show j+1<=O Q from (bk.1 hj).1);rwa[gz,tC] at this
def aDO {s:Nat} {Q:List (List Y)} {R:List Y} (hu:∀r∈Q,O r=s) (hj:Q[j]? =V R):(Q.flatten.drop (j*s)).take s=R:=by
 let ⟨cT,he⟩:=bk.1 hj;rw[<-Hi hu,tE cT,qQ,he,IQ (hu R (bF hj))]
def CS {Y:Type} (ii:List Y) (n:Int):G Y:=if 0<=n then ii[n.toNat]? else A
def abh {ii:List Y} {n:Int} {R:Y} (hg:CS ii n=V R):∃k:Nat,n=k/\ii[k]? =V R:=by
 unfold CS at hg;split at hg
 .exact ⟨n.toNat,W,hg⟩
 .cases hg
def aCl (sh:Sh) (x:AV):AV:=
 match sh with
 | .d=>x
 | .o _ _=>.undef
def KW:eG->bg->bg
 |_,[]=> []
 |l,x::r=>aCl (l.headD .d) x::KW l.tail r
def zZ (sh:Sh) (x:AV):AV:=aT (kU x).isEmpty (aCl sh x) .undef
def xg:eG->bg->bg
 |_,[]=> []
 |l,x::r=>zZ (l.headD .d) x::xg l.tail r
def FD:Nat->eG->bg->fN
 |_,_,[]=> []
 |p,l,x::r=>aT (tW (zZ (l.headD .d) x)) (aT (tW x) (FD (S6 p) l.tail r) ((p,x)::FD (S6 p) l.tail r)) (FD (S6 p) l.tail r)
def lN.see:∀{l vs xs ae},lN F l vs xs ae->dS F mn vs (KW l xs)
 |_,_,_,_,.nil=>.nil
 |l,_,_,_,.cons (v:=v) q t=>.cons (by
  show VA F mn v (aCl (l.headD .d) _);generalize l.headD .d=sh at q;cases sh with
  |d=>cases q with
   |d q=>exact q
   |any=>exact .undef v
  |o b l=>exact .undef v) t.see
def TR.at {s:Nat}:∀{l vs Q ae} {j:Nat} {R},TR F l vs Q ae->(∀r∈Q,O r=s)->Q[j]? =V R->∃L0,lN F l ((vs.drop (j*s)).take s) R L0
 |_,_,_,_,_,_,.nil,_,h=>by cases h
 |l,_,_,_,0,R,.cons (vs:=vs) (a:=a) q t,hu,h=>by
  obtain rfl:_=R:=by simpa using h
  exact ⟨a,by rw[nX,oQ,IQ (by rw[q.length];exact hu _ am)];exact q⟩
 |l,_,_,_,j+1,R,.cons (vs:=vs) q t,hu,h=>by
  have hl:O vs=s:=by rw[q.length];exact hu _ am
  have:=t.at (λr hr=>hu r (fj _ hr)) (show _=V R by simpa using h)
  rwa[gz,tC,Et,<-tF,<-hl,asO,hl]
def TR.take {s:Nat}:∀{l vs Q ae} (n:Nat),TR F l vs Q ae->(∀r∈Q,O r=s)->∃L',L'.Sublist ae/\TR F l (vs.take (n*s)) (Q.take n) L'
 |_,_,_,_,0,_,_=>⟨[],PB _,by simpa using .nil⟩
 |_,_,_,_,n+1,.nil,_=>⟨[],.refl _,by simpa using .nil⟩
 |l,_,_,_,n+1,.cons (vs:=vs) q t,hu=>by
  let ⟨L',h1,h2⟩:=t.take n λr hr=>hu r (fj _ hr)
  refine ⟨_,(asa _).append h1,?_⟩;rw[gz,tC,Et,<-hu _ (kr),<-q.length,IP,asX,q.length,hu _ (kr)];exact .cons q h2
def TR.cut {s:Nat}:∀{l vs Q ae} (n:Nat),TR F l vs Q ae->(∀r∈Q,O r=s)->∃rt B,ae=rt++B/\TR F l (vs.take (n*s)) (Q.take n) rt/\TR F l (vs.drop (n*s)) (Q.drop n) B
 |_,_,_,ae,0,q,_=>⟨[],ae,rfl,by simpa using .nil,by simpa using q⟩
 |_,_,_,_,n+1,.nil,_=>⟨[],[],rfl,by simpa using .nil,by simpa using .nil⟩
 |l,_,_,_,n+1,.cons (vs:=vs) (a:=a) q t,hu=>by
  let ⟨rt,B,h1,h2,h3⟩:=t.cut n λr hr=>hu r (fj _ hr)
  subst h1;have hl:O vs=s:=by rw[q.length];exact hu _ kr
  have e:(n+1)*s=O vs+n*s:=by rw[gz,tC,hl];omega
  refine ⟨a++rt,B,(l6 ..).symm,?_,?_⟩
  .rw[e,IP,asX];exact .cons q h2
  .rw[e,anP,List.drop_succ_cons];exact h3
def TR.append:∀{l vs Q ae ws R L2},TR F l vs Q ae->TR F l ws R L2->TR F l (vs++ws) (Q++R) (ae++L2)
 |_,_,_,_,_,_,_,.nil,k=>k
 |_,_,_,_,_,_,_,.cons q t,k=>by rw[l6,l6];exact .cons q (t.append k)
def TC.put {x:AV} (sh:Sh) (h:VA F g v x):TC F sh v (zZ sh x) []:=by
 unfold zZ;rw[cx];split
 .rename_i hk;cases sh with
  |d=>exact .d (h.tR hk)
  |o=>exact .any v
 .exact .any v
def lN.S7:∀{l ws xs},dS F g ws xs->lN F l ws (xg l xs) []
 |_,_,_,.nil=>.nil
 |l,_,_,.cons h t=>.cons (a:= []) (TC.put _ h) (lN.S7 t)
def lN.put:∀{l vs R ae ws xs},lN F l vs R ae->dS F g ws xs->O xs<=O R->∃L',L'.Sublist ae/\lN F l (ws++vs.drop (O ws)) (xg l xs++R.drop (O xs)) L'
 |l,vs,R,ae,_,_,q,.nil,_=>⟨ae,.refl _,by simpa[xg] using q⟩
 |l,_,_,_,_,_,.nil,.cons h t,hl=>by cases hl
 |l,_,_,_,_,_,.cons (a:=a) q qs,.cons h t,hl=>by
  let ⟨L',h1,h2⟩:=qs.put t (by simpa using hl)
  exact ⟨L',h1.trans (PC _ _),.cons (a:= []) (TC.put _ h) (by simpa using h2)⟩
def lN.spl:∀{l vs R ae ws xs} (f:Nat),lN F l vs R ae->dS F g ws xs->f+O xs<=O R->∃L',L'.Sublist ae/\lN F l (eX vs f ws) (iL R f (xg (l.drop f) xs)) L'
 |l,vs,R,ae,ws,xs,0,q,h,hl=>by
  let ⟨L',h1,h2⟩:=q.put h W
  refine ⟨L',h1,?_⟩;show lN F l (vs.take 0++ws++vs.drop (E' 0 (O ws))) (R.take 0++xg l xs++R.drop (E' 0 (O (xg l xs)))) L';rw[show O (xg l xs)=O xs by rw[<-(lN.S7 (F:=F) (l:=l) h).length,h.length],show E' 0 (O ws)=O ws from cN _,show E' 0 (O xs)=O xs from cN _]
  exact h2
 |l,_,_,_,ws,xs,f+1,.nil,h,hl=>by simp at hl
 |l,_,_,_,ws,xs,f+1,.cons (v:=v) (vs:=vs) (x:=x) (xs:=R) q t,h,hl=>by
  let ⟨L',h1,h2⟩:=t.spl f h (by simp at hl;omega)
  refine ⟨_,(asa _).append h1,?_⟩;have e1:eX (v::vs) (f+1) ws=v::eX vs f ws:=by
   show (v::vs).take (f+1)++ws++(v::vs).drop (f+1+O ws)=v::(vs.take f++ws++vs.drop (f+O ws));rw[show f+1+O ws=f+O ws+1 by omega];rfl
  have e2:∀ys,iL (x::R) (f+1) ys=x::iL R f ys:=λys=>by
   show (x::R).take (f+1)++ys++(x::R).drop (f+1+O ys)=x::(R.take f++ys++R.drop (f+O ys));rw[show f+1+O ys=f+O ys+1 by omega];rfl
  rw[e1,e2,show l.drop (f+1)=l.tail.drop f by cases l<;>simp]
  exact .cons q h2
def aaN {a v b:bj} (h:f+O ws<=O v):eX (a++(v++b)) (O a+f) ws=a++(eX v f ws++b):=by
 show (a++(v++b)).take (O a+f)++ws++(a++(v++b)).drop (O a+f+O ws)=a++((v.take f++ws++v.drop (f+O ws))++b);rw[IP,anO W,il,anP,anN h]
 simp
def aa6 {R xs:bg} (h1:f+O xs<=O R):O (iL R f xs)=O R:=by
 show O (R.take f++xs++R.drop (f+O xs))=_;rw[gS,gS,dv,iz];omega
def akz (h1:f+O xs<=O R):O (eX R f xs)=O R:=by
 show O (R.take f++xs++R.drop (f+O xs))=_;rw[gS,gS,dv,iz];omega
def TR.spl {s:Nat} {xs:bg} (h:dS F g ws xs) (hl:f+O xs<=s):∀{l vs Q ae} {j:Nat} {R},TR F l vs Q ae->(∀r∈Q,O r=s)->Q[j]? =V R->∃L',L'.Sublist ae/\TR F l (eX vs (j*s+f) ws) (Q.set j (iL R f (xg (l.drop f) xs))) L'
 |_,_,_,_,_,_,.nil,_,hj=>by cases hj
 |l,_,_,_,0,R,.cons (vs:=vs) (ws:=b) q t,hu,hj=>by
  obtain rfl:_=R:=by simpa using hj
  have hr:=hu _ (kr);obtain ⟨L',h1,h2⟩:=q.spl f h W
  refine ⟨_,h1.append (.refl _),?_⟩;have:=aaN (a:= []) (v:=vs) (b:=b) (f:=f) (ws:=ws) (by rw[h.length,q.length];omega)
  rw[nX,show eX (vs++b) (0+f) ws=eX vs f ws++b from this];exact .cons h2 t
 |l,_,_,_,j+1,R,.cons (vs:=vs) (ws:=b) q t,hu,hj=>by
  obtain ⟨L',h1,h2⟩:=t.spl h hl (λr hr=>hu r (fj _ hr)) (show _=V R by simpa using hj)
  have hv:O vs=s:=by rw[q.length];exact hu _ (kr)
  refine ⟨_,(asa _).append h1,?_⟩;have li:=t.length λr hr=>hu r (fj _ hr)
  have hjs:=Uv (s:=s) (show _=V R by simpa using hj)
  have:=aaN (a:=vs) (v:=b) (b:= []) (f:=j*s+f) (ws:=ws) (by rw[h.length];omega)
  rw[rE,rE,hv] at this;rw[show (j+1)*s+f=s+(j*s+f) by rw[gz];omega,this]
  exact .cons q h2
def abt (h1:off+O ws<=N) (h2:N<=O vs):(eX vs off ws).take N=eX (vs.take N) off ws:=by
 show (vs.take off++ws++vs.drop (off+O ws)).take N=(vs.take N).take off++ws++(vs.take N).drop (off+O ws);have hl:O (vs.take off++ws)=off+O ws:=by rw[gS,dv,fG W]
 rw[List.take_append,jc W,hl,wX,mC,fG W]
def axG {p:Nat} (h:off+O ws<=O vs):(eX vs off ws)[p]? =if p<off then vs[p]? else if p<off+O ws then ws[p-off]? else vs[p]? :=by
 show (vs.take off++ws++vs.drop (off+O ws))[p]? =_;have hl:O (vs.take off)=off:=by rw[dv];omega
 rw[l6];by_cases h1:p<off
 .rw[ax h1,nc W,eO,ax h1]
 .rw[au h1,nW W,hl]
  by_cases h2:p<off+O ws
  .rw[ax h2,nc W]
  .rw[au h2,nW W,fF]
   congr 1;omega
def Rel.bG (r:Rel F g Z c s T H) {K:Nat} {z:Bool} {e sz:Nat} {l:eG} {Q:bB} {o:fN} (hb:lk K s.bs=V (.bG z e sz l Q o)):(Q= []/\o= []/\(g K).b=U/\Z K= [])\/
  ((g K).b=I/\∃svs ae,Z K=((g K).n,.cells e svs)::ae/\H (g K).n=V (.cells e svs)/\(z=I->Q≠ [])/\(∀r∈Q,O r=sz)/\Az e sz (O Q) (O svs) (g K).c/\TR F l (svs.take (O Q*sz)) Q ae/\HoA F g svs o):=by
 let ⟨q,_,q3⟩:=r.bx K _ hb;generalize Z K=ae at q q3;cases q with
 |nil h=>exact .inl ⟨rfl,rfl,h,rfl⟩
 |bG h1 h2 h3 h4 h5 h6=>exact .inr ⟨h1,_,_,rfl,(q3 (_,_) am).1,h2,h3,h4,h5,h6⟩
def Rel.row (r:Rel F g Z c s T H) {e:Nat} {l:eG} {Q:bB} {R:bg} {o:fN} (hb:lk K s.bs=V (.bG z e sz l Q o)) (hj:Q[j]? =V R):
  (g K).b=I/\∃svs ae,Z K=((g K).n,.cells e svs)::ae/\H (g K).n=V (.cells e svs)/\(∀r∈Q,O r=sz)/\Az e sz (O Q) (O svs) (g K).c/\TR F l (svs.take (O Q*sz)) Q ae/\HoA F g svs o/\dS F mn ((svs.drop (j*sz)).take sz) (KW l R)/\O R=sz/\j*sz+sz<=O svs:=by
 rcases r.bG hb with ⟨rfl,_⟩|⟨h1,svs,ae,h2,h3,_,h4,h5,h6,h7⟩
 .cases hj
 .let ⟨L0,q⟩:=h6.at h4 hj;have lm:=Uv (s:=sz) hj;rw[wX,mC,fG W] at q
  exact ⟨h1,svs,ae,h2,h3,h4,h5,h6,h7,q.see,h4 R (bF hj),lO lm (pH h5)⟩
structure cF where
 need:Prop
 got:Prop
 pf:got
def eqO (a b:Nat):cF:=⟨a=b,a=a,rfl⟩
structure nU where
 CB:List cF
 s:LS
 x:AV
 ac:bQ
def jF:List cF->Prop
 | []=>True
 |q::l=>q.need/\jF l
def sL (E:Env) (pn:Nat->Bool) (op:Op) (s:LS) (r:nU):Prop:=jF r.CB->Ok E pn op s r.s r.x r.ac
def eqH (j sz:Nat):bQ->fN->List cF
 |f::fs,p::o=>eqO p.1 (E' (N' j sz) f)::eqH j sz fs o
 |_,_=> []
def aCu (R:bg):bQ->fN->bg
 |f::fs,p::o=>aCu (R.set f p.2) fs o
 |_,_=>R
def dS.set:∀{vs xs} {i:Nat} {v:SV} {x:AV},dS F g vs xs->vs[i]? =V v->VA F g v x->dS F g vs (xs.set i x)
 |_,_,_,_,_,.nil,_,_=>.nil
 |_,_,0,_,_,.cons _ t,h,k=>by obtain rfl:=kh (show V _=V _ from h);exact .cons k t
 |_,_,i+1,_,_,.cons h t,hi,k=>.cons h (t.set (by simpa using hi) k)
def aoP {svs:bj} {j sz:Nat}:∀{fs:bQ} {o:fN} {R:bg},dS F g ((svs.drop (j*sz)).take sz) R->HoA F g svs o->(∀f∈fs,f<sz)->jF (eqH j sz fs o)->dS F g ((svs.drop (j*sz)).take sz) (aCu R fs o)
 | [],_,_,q,_,_,_=>q
 |_::_,[],_,q,_,_,_=>q
 |f::fs,p::o,R,q,ho,hf,ha=>by
  obtain ⟨h1,h2⟩:p.1=j*sz+f/\jF (eqH j sz fs o):=ha;let ⟨v,v1,v2⟩:=ho p am
  refine aoP (fs:=fs) (o:=o) (q.set (i:=f) ?_ v2) (λp hp=>ho p (fj _ hp)) (λf hf'=>hf f (fj _ hf')) h2
  rw[eO,ax (hf f am),fF,<-h1]
  exact v1
def adv (sz:Nat):bQ->Bool
 | []=>I
 |f::l=>D' (S6 f) sz&&adv sz l
def aiq {sz:Nat}:∀{l:bQ},adv sz l=I->∀f∈l,f<sz
 |_::_,h,f,hf=>by
  have h:=j3.1 (show (D' (S6 _) sz&&adv sz _)=I from h);rcases cU.1 hf with rfl|hf
  .exact (bO _ _).1 h.1
  .exact aiq h.2 f hf
def aCo (E:Env) (s:LS) (op:Op) (R:bg) (fs:bQ) (ob:Prop->cF):G nU:=
 match op with
 | .load t a=>aA (E.ty.get t) λi=>(match dR s.ts a with
  | .el K sz j f=>(match lk K s.bs with
   |some (.bG z e Cr l Q o)=>aT (Cz sz Cr&&(D' (E' f i.size) sz&&(adv sz fs&&(l8 (KW l R)).isEmpty))) (aA (vT i (((aCu (KW l R) fs o).drop f).take i.size) 0) λx=>V ⟨ob (Q[j]? =V R)::eqH j sz fs o,s,x,[]⟩) A
   |_=>A)
  |_=>A)
 | .indexAddr t a ix=>aA (E.ty.get t) λi=>aA (px i.desc) λe=>aA (E.ty.get e) λie=>(match dR s.ts a,dR s.ts ix with
  | .sl _ _ sz _ Q,.lit (.int _ (.lit n))=>aT (Cz ie.size sz) (V ⟨[ob (CS Q n=V R)],s,.kX R,[]⟩) A
  |_,_=>A)
 |_=>A
def aiK {ie:TI} {id m:Nat} {c:Cp} (hi:E.ty.get t=V i) (he:px i.desc=V e) (pi:E.ty.get e=V ie) (hk:k<m):same (sA E t (.sl id off m c) k)=V (.ptr id (off+k*ie.size),[]):=by
 unfold sA;rw[fM hi,sP he];show same (EK E e id off m k)=_;unfold EK;rw[pi,(bO _ _).2 hk];rfl
def aJX {op:Op} {R:bg} {ob:Prop->cF} (gX:∀P,(ob P).need=P) {r:nU} (h:aCo E s op R fs ob=V r):sL E pn op s r:=by
 unfold aCo at h;split at h
 .let ⟨i,hi,h⟩:=ak h;split at h
  .rename_i K sz j f ha;split at h
   .rename_i z e Cr l Q o hb;let ⟨hc,h⟩:=bf h;let ⟨x,hx,h⟩:=ak h;cases h;simp only[bI] at hc;let ⟨h1,h2,h3,h4⟩:=hc;obtain rfl:=(f9 _ _).1 h1;have h2:f+i.size<=sz:=(bO _ _).1 h2;intro hh;let ⟨hj,hh⟩:=hh;rw[gX] at hj;exact .un (f:=λH v=>same (sy E H _ v)) (λ_ _ _=>rfl) ha am λ{F g Z c T H v} r hv=>by
     cases hv;let ⟨_,svs,ae,_,hH,_,_,_,ho,q,hR,hl⟩:=r.row hb hj;let ⟨u,u1,u2⟩:=xj (((aoP (q.tR h4) ho (aiq h3) hh).drop f).take i.size) hx;rw[wX,mC,tF,fG W] at u1
     exact ⟨u,Qg hi (ur hH) (ahW u1 W),u2⟩
   .cases h
  .cases h
 .let ⟨i,hi,h⟩:=ak h;let ⟨e,he,h⟩:=ak h;let ⟨ie,pi,h⟩:=ak h;split at h
  .rename_i m e' sz n0 Q _ n ha CO;let ⟨h1,h⟩:=bf h;cases h;obtain rfl:=(f9 _ _).1 h1;intro hh;have hR:=hh.1;rw[gX] at hR;obtain ⟨k,rfl,hk⟩:=abh hR;exact .bi (f:=λv u=>aA (ph u) λk=>same (sA E _ v k)) (λ_ _ _=>rfl) ha am CO am λ{F g v w} hv hw=>by
    cases hw;cases hv with
    |nil=>cases hk
    |sle=>cases hk
    | @sl _ _ id off cp _ _ _ _ e2 svs hn hF hc hm hu hl q=>
    subst hn;have lm:=Uv (s:=ie.size) hk;have hRl:=hu R (bF hk);refine ⟨_,aiK hi he pi (bk.1 hk).1,.kX (xq hF W W) W ?_⟩
    have:=(q.drop (k*ie.size)).take ie.size;rw[aDO hu hk,wX,mC,tF,fG W] at this
    rw[hRl];exact this
  .cases h
 .cases h
def Ym (E:Env) (s:LS) (op:Op):G nU:=
 match op with
 | .load t a=>aA (E.ty.get t) λi=>(match dR s.ts a with
  | .el K sz j f=>(match lk K s.bs with
   |some (.bG _ _ _ _ _ (p::_))=>aT (oj i.desc) A (V ⟨[eqO p.1 (E' (N' j sz) f)],s,p.2,[]⟩)
   |_=>A)
  |_=>A)
 |_=>A
def aKA {op:Op} {r:nU} (h:Ym E s op=V r):sL E pn op s r:=by
 unfold Ym at h;split at h
 .let ⟨i,hi,h⟩:=ak h;split at h
  .rename_i K sz j f ha;split at h
   .rename_i p o hb;rw[cx] at h;split at h
    .cases h
    .rename_i hg;cases h;intro hh;have hp:p.1=j*sz+f:=hh.1;exact .un (f:=λH v=>same (sy E H _ v)) (λ_ _ _=>rfl) ha am λ{F g Z c T H v} r hv=>by
      cases hv;rcases r.bG hb with ⟨_,h,_⟩|⟨_,svs,ae,_,hH,_,_,_,_,ho⟩
      .cases h
      .let ⟨v,v1,v2⟩:=ho p am
       refine ⟨v,Qg hi (ur hH) ?_,v2⟩;unfold jr;rw[cx,au hg,<-hp];exact v1
   .cases h
  .cases h
 .cases h
def aCZ (E:Env) (s:LS) (op:Op) (k:Nat) (ob:Prop->cF):G nU:=
 match op with
 | .indexAddr t a ix=>aA (E.ty.get t) λi=>aA (px i.desc) λe=>aA (E.ty.get e) λie=>(match dR s.ts a,dR s.ts ix with
  | .ms K sz lo n,.lit (.int _ (.lit m))=>aT (Cz ie.size sz) (V ⟨[ob (m=(k:Int)/\k<n)],s,.el K sz (E' lo k) 0,[]⟩) A
  |_,_=>A)
 |_=>A
def aKz {op:Op} {ob:Prop->cF} (gX:∀P,(ob P).need=P) {r:nU} (h:aCZ E s op k ob=V r):sL E pn op s r:=by
 unfold aCZ at h;split at h
 .let ⟨i,hi,h⟩:=ak h;let ⟨e,he,h⟩:=ak h;let ⟨ie,pi,h⟩:=ak h;split at h
  .rename_i K sz lo n _ m ha CO;let ⟨h1,h⟩:=bf h;cases h;obtain rfl:=(f9 _ _).1 h1;intro hh;have hm:=hh.1;rw[gX] at hm;obtain ⟨rfl,hk⟩:=hm;exact .bi (f:=λv u=>aA (ph u) λk=>same (sA E _ v k)) (λ_ _ _=>rfl) ha am CO am λ{F g v w} hv hw=>by
    cases hw;cases hv with
    |sw=>cases hk
    |zQ=>cases hk
    |ms _ _ _ hb=>
    refine ⟨_,aiK hi he pi hk,?_⟩;rw[<-gz];exact .el K ie.size (lo+k) 0 hb
  .cases h
 .cases h
def HV (Q:bB) (j f:Nat) (xs:bg):G bB:=aA (Q[j]?) λR=>V (Q.set j (iL R f xs))
def aCb (E:Env) (s:LS) (op:Op) (Q':bB) (ob:Prop->cF):G nU:=
 match op with
 | .store t a c=>cq (E.ty.get t) (F5 (dR s.ts c)) λi xs=>(match dR s.ts a with
  | .el K sz j f=>(match lk K s.bs with
   |some (.bG z e Cr l Q o)=>aT (Cz sz Cr&&(Cz (O xs) i.size&&D' (E' f (O xs)) sz)) (V ⟨[ob (HV Q j f (xg (l.drop f) xs)=V Q')],s.set K (.bG z e sz l Q' (FD (E' (N' j sz) f) (l.drop f) xs)),.dh [],[K]⟩) A
   |_=>A)
  |_=>A)
 |_=>A
def aaH:∀{l:eG} {ws:bj} {xs:bg} (p:Nat),dS F g ws xs->∀q∈FD p l xs,p<=q.1/\∃v,ws[q.1-p]? =V v/\VA F g v q.2
 |_,_,_,_,.nil,_,h=>by cases h
 |l,_,_,p,.cons (v:=v) (vs:=vs) (x:=x) (xs:=xs) h t,q,hq=>by
  have ih:q∈FD (S6 p) l.tail xs->p<=q.1/\∃w,(v::vs)[q.1-p]? =V w/\VA F g w q.2:=λhq=>by
   let ⟨h1,w,w1,w2⟩:=aaH (p+1) t q hq;exact ⟨W,w,by rw[show q.1-p=(q.1-(p+1))+1 by omega];exact w1,w2⟩
  have hq:q∈aT (tW (zZ (l.headD .d) x)) (aT (tW x) (FD (S6 p) l.tail xs) ((p,x)::FD (S6 p) l.tail xs)) (FD (S6 p) l.tail xs):=hq;rw[cx,cx] at hq;split at hq
  .split at hq
   .exact ih hq
   .rcases cU.1 hq with rfl|hq
    .exact ⟨cM _,v,by rw[qT];rfl,h⟩
    .exact ih hq
  .exact ih hq
def aJs {op:Op} {Q':bB} {ob:Prop->cF} (gX:∀P,(ob P).need=P) {r:nU} (h:aCb E s op Q' ob=V r):sL E pn op s r:=by
 unfold aCb at h;split at h
 .let ⟨i,xs,hi,hx,h⟩:=bV h;split at h
  .rename_i K sz j f ha;split at h
   .rename_i z e Cr l Q o hb;let ⟨hc,h⟩:=bf h;cases h;simp only[bI] at hc;let ⟨h1,h2,h3⟩:=hc;obtain rfl:=(f9 _ _).1 h1;have h3:f+O xs<=sz:=(bO _ _).1 h3;intro hh;have hQ:=hh.1;rw[gX] at hQ;let ⟨R,hj,hQ⟩:=ak hQ;cases hQ;refine .wr hb λ{F g Z c T H} r=> ?_
    let ⟨v,v1,v2⟩:=r.val ha am
    let ⟨w,w1,w2⟩:=r.val rfl (Hr hx);let ⟨ws,u1,u2⟩:=Ho hx w2;cases v2;let ⟨ta,svs,ae,hφ,hH,hu,hc,q,ho,_,hR,hl⟩:=r.row hb hj;let ⟨L',hs,q'⟩:=q.spl u2 h3 hu hj;have lm:=Uv (s:=sz) hj;have G7:=u2.length;refine ⟨.dh [],.cells e svs,.cells e (eX svs (j*sz+f) ws),ae,L',hφ,λnew=> ?_,.dh .nil,.bG ta (λ_ e0=> ?_) (λr hr=> ?_) ?_ ?_ (λp hp=> ?_),hs⟩
    .show two T _ _ (λa v=>unit (xK E H _ v a))=_
     rw[two,v1,w1];exact abL hi u1 hH (by rw[G7,bI];exact ⟨h2,(bO _ _).2 (show j*sz+f+O xs<=O svs by omega)⟩)
    .have:=bH O e0;rw[iy] at this;rw[qg.1 this] at hj;cases hj
    .rcases PD hr with hr|rfl
     .exact hu r hr
     .rw[aa6 (by rw[<-(lN.S7 (F:=F) u2).length,G7,hR];exact h3)];exact hR
    .rw[iy,akz W];exact hc
    .rw[iy,abt W (pH hc)];exact q'
    .let ⟨k1,v,k2,k3⟩:=aaH _ u2 p hp;have k1:j*sz+f<=p.1:=k1;have k2:ws[p.1-(j*sz+f)]? =V v:=k2;have:=(bk.1 k2).1;exact ⟨v,by rw[axG W,au W,ax W];exact k2,k3⟩
   .cases h
  .cases h
 .cases h
end
section
variable {F F':Hf} {g g':Gb} {Z:Nat->Ow} {c:Nat->cC} {s s':LS} {T:Tf} {H:Hf} {E:Env} {pn:Nat->Bool}
variable {z':Bool}
def pZ (K:Nat) (x:AV):AV:=aT (nN K (kU x)) .undef x
def aaB (K:Nat) (x:AV):K∉kU (pZ K x):=by
 unfold pZ;rw[cx];split
 .exact λhc=>by cases hc
 .rename_i hx;exact λhc=>hx ((uE _ _).2 hc)
def Ly {x:AV} (q:VA F g v x):VA F g v (pZ K x):=by
 unfold pZ;rw[cx];split
 .exact .undef v
 .exact q
def ajj {K:Nat}:∀{xs:bg} {vs:bj},dS F g vs xs->dS F g vs (xs.map (pZ K))
 |_,_,.nil=>.nil
 |_,_,.cons h t=>.cons (Ly h) (ajj t)
def ajv (K:Nat):∀(l:bg),K∉l8 (l.map (pZ K))
 | [],hc=>by cases hc
 |x::l,hc=>(fk.1 (show K∈kU (pZ K x)++l8 (l.map (pZ K)) from hc)).elim (aaB K x) (ajv K l)
def Bx.qd (K:Nat):Bx->Bx
 | .flat e cs=>.flat e (cs.map (pZ K))
 | .bG z e s l Q o=>.bG z e s l Q (o.map λp=>(p.1,pZ K p.2))
 |b=>b
def LS.qd (s:LS) (K:Nat):LS:=⟨s.ts.map λp=>(p.1,pZ K p.2),s.bs.map λp=>(p.1,p.2.qd K)⟩
def aAp (s:LS) (K:Nat):(s.qd K).free K:=by
 refine ⟨λt x hx=> ?_,λk b dd hb=> ?_⟩
 .obtain ⟨y,_,rfl⟩:=xb.1 ((Ft (λ(_:Nat) (x:AV)=>pZ K x) t s.ts).symm.trans hx)
  exact aaB K y
 .obtain ⟨y,_,rfl⟩:=xb.1 ((Ft (λ(_:Nat) (b:Bx)=>b.qd K) k s.bs).symm.trans hb)
  cases y with
  |flat e cs=>exact ajv K cs
  |bG z e s l Q o=>
   show K∉l8 ((o.map λp=>(p.1,pZ K p.2)).map (·.2))
   rw[we,show ((λp:Nat×AV=>p.2) ∘ λp:Nat×AV=>(p.1,pZ K p.2))=pZ K ∘ (·.2) from rfl,<-we]
   exact ajv K _
  |_=>exact λhc=>by cases hc
def fg.qd {b:Bx} {ae:Ow} (K:Nat) (q:fg F g k b ae):fg F g k (b.qd K) ae:=by
 cases q with
 |flat q=>exact .flat (ajj q)
 |nil hb=>exact .nil hb
 |bG hb hz hu hc q ho=>
  refine .bG hb hz hu hc q λp hp=> ?_
  obtain ⟨p0,hp0,rfl⟩:=dL.1 hp;let ⟨v,v1,v2⟩:=ho p0 hp0;exact ⟨v,v1,Ly v2⟩
 |map hk hv hw=>exact .map hk hv hw
 |iter=>exact .iter
def Rel.qd (r:Rel F g Z c s T H) (K:Nat):Rel F g Z c (s.qd K) T H:=r.arR (ft:=λ_=>pZ K) (fb:=λ_ b=>b.qd K) r.fr (λ_=>by unfold pZ;rw[cx];split<;>rfl) (λ_ _ _ _=>Ly) λ_ _ _ _ q=>q.qd K
structure Srx where
 CB:List cF
 R:bB
 o:Nat->fN
def adX (s:LS) (sz:Nat) (l:eG) (y:AV) (R:bB) (o:Nat->fN):Prop:=y≠ .undef/\∀{F:Hf} {g:Gb} {Z:Nat->Ow} {c:Nat->cC} {T:Tf} {H:Hf} {v:SV},Rel F g Z c s T H->VA F g v y->
 ∃xs,pP H sz v=V (O R,xs)/\TR F l xs R []/\(∀r∈R,O r=sz)/\∀n,∀q∈o n,n<=q.1/\∃v,xs[q.1-n]? =V v/\VA F g v q.2
def ahq {id:Nat} {cp:Cp} (hh:jD (H id) off (n*sz)=V (e,svs)) (hl:off+n*sz<=O svs):pP H sz (.sl id off n cp)=V (n,(svs.drop off).take (n*sz)):=by
 show Ct H sz (.sl id off n cp)=_;unfold Ct;refine F7 (a:=n) rfl (b:=((svs.drop off).take (n*sz))) ?_;show lx H id off (N' n sz)=_;unfold lx;rw[show jD (H id) off (N' n sz)=V (e,svs) from hh];show aT (D' (E' off (N' n sz)) (O svs)) (V ((svs.drop off).take (n*sz))) A=_;rw[show D' (E' off (N' n sz)) (O svs)=I from (bO _ _).2 hl]
def lN.dat:∀{vs xs ae},lN F [] vs xs ae->dS F mn vs xs
 |_,_,_,.nil=>.nil
 |_,_,_,.cons (v:=v) q t=>.cons (match q with| .d q=>q| .any _=>.undef v) (lN.dat t)
def TR.dat:∀{vs Q ae},TR F [] vs Q ae->dS F mn vs Q.flatten
 |_,_,_,.nil=>.nil
 |_,_,_,.cons q t=>by rw[qQ];exact q.dat.append t.dat
def Fb {l:eG} (hv:v= .bY\/v= .sle):∃xs,pP H sz v=V (O ([]:bB),xs)/\TR F l xs [] []/\(∀r∈([]:bB),O r=sz)/\∀n,∀q∈(λ_=> []:Nat->fN) n,n<=q.1/\∃v,xs[q.1-n]? =V v/\VA F g v q.2:=
 ⟨[],by rcases hv with rfl|rfl<;>rfl,.nil,λ_ hr=>(by cases hr),λ_ _ hq=>by cases hq⟩
def aCg {m e:Nat} {R:bB}:adX s sz [] (.sl m e sz n R) R (λ_=> []):=⟨am,λr hv=>by
 cases hv with
 |nil=>exact Fb (.inl rfl)
 |sle=>exact Fb (.inr rfl)
 |sl hn hF hc hm hu hl q=>subst hn;exact ⟨_,ahq (xX (λi o h=>(r.fr i o h).1) hF) hl,.tQ hu q,hu,λ_ _ hq=>by cases hq⟩⟩
def aJP {lo:Nat} {Q R:bB} {o:fN} (hb:lk K s.bs=V (.bG z e sz [] Q o)) (hR:(Q.drop lo).take n=R) (hn:lo+n<=O Q):adX s sz [] (.ms K sz lo n) R (λ_=> []):=⟨am,λ{F g Z c T H v} r hv=>by
 subst hR;have aFZ:∀{n},n=0->(Q.drop lo).take n= []:=λe=>by rw[e,zn]
 cases hv with
 |sw=>rw[aFZ rfl];exact Fb (.inl rfl)
 |zQ=>rw[aFZ rfl];exact Fb (.inr rfl)
 |ms _ _ _ qu=>
  rcases r.bG hb with ⟨_,_,h,_⟩|⟨_,svs,ae,_,hH,_,hu,hc,q,_⟩
  .rw[h] at qu;cases qu
  .have hl:=pH hc;have lm:lo*sz+n*sz<=O Q*sz:=by rw[<-gz];exact jv _ hn
   have li:O ((Q.drop lo).take n)=n:=by rw[dv,iz];omega
   have mK:∀r∈(Q.drop lo).take n,O r=sz:=λr hr=>hu r (nh (oB hr))
   refine ⟨_,by rw[li];exact ahq (ur hH) W,.tQ mK ?_,mK,λ_ _ hq=>by cases hq⟩
   have:=(q.dat.drop (lo*sz)).take (n*sz);rwa[wX,mC,fG W,<-ajm hu] at this⟩
def aCf {l:eG} {cs:bg} (hb:lk K s.bs=V (.flat e cs)) (hl:O cs=sz):adX s sz l (.ms K sz 0 1) [xg l cs] (λn=>FD n l cs):=⟨am,λ{F g Z c T H v} r hv=>by
 cases hv with
 |ms _ _ _ qu=>
 let ⟨svs,_,q,hH⟩:=r.flat hb;have AP:O svs=sz:=by rw[q.length,hl]
 refine ⟨svs,?_,by simpa using TR.cons (lN.S7 (l:=l) q) .nil,λr hr=> ?_,λn=>aaH n q⟩
 .rw[ahq (ur hH) W,nX,oQ,jc W];rfl
 .rw[gy.1 hr,<-(lN.S7 (F:=F) (l:=l) q).length,AP]⟩
def Z5 (s:LS) (sz:Nat) (l:eG) (y:AV) (rt:bB->Prop) (R:bB) (ob:Prop->cF):G Srx:=
 match y with
 | .lit .bY=>V ⟨[ob (rt [])],[],λ_=> []⟩
 | .sl _ _ Cr _ Q=>aT (Cz Cr sz&&l.isEmpty) (V ⟨[ob (rt Q)],Q,λ_=> []⟩) A
 | .ms K Cr lo n=>
  (match lk K s.bs with
  |some (.bG _ _ sz'' [] Q _)=>aT (Cz Cr sz&&(Cz sz'' sz&&l.isEmpty)) (V ⟨[ob (rt R/\(Q.drop lo).take n=R/\lo+n<=O Q)],R,λ_=> []⟩) A
  |some (.flat _ cs)=>aT (Cz Cr sz&&(Cz (O cs) sz&&(Cz lo 0&&Cz n 1))) (V ⟨[ob (rt [xg l cs])],[xg l cs],λn=>FD n l cs⟩) A
  |_=>A)
 |_=>A
def P3 {l:eG} {y:AV} {rt:bB->Prop} {R:bB} {ob:Prop->cF} (gX:∀P,(ob P).need=P) {q:Srx} (h:Z5 s sz l y rt R ob=V q) (hh:jF q.CB):rt q.R/\adX s sz l y q.R q.o:=by
 unfold Z5 at h;split at h
 .cases h;have h1:=hh.1;rw[gX] at h1;exact ⟨h1,am,λr hv=>by cases hv;exact Fb (.inl rfl)⟩
 .let ⟨h1,h⟩:=bf h;cases h;rw[bI] at h1;have h2:=hh.1;rw[gX] at h2;obtain rfl:=(f9 _ _).1 h1.1;obtain rfl:l= []:=by simpa using h1.2
  exact ⟨h2,aCg⟩
 .split at h
  .rename_i hb;let ⟨h1,h⟩:=bf h;cases h;simp only[bI] at h1;have h2:=hh.1;rw[gX] at h2;obtain rfl:=(f9 _ _).1 h1.1;obtain rfl:=(f9 _ _).1 h1.2.1;obtain rfl:l= []:=by simpa using h1.2.2
   exact ⟨h2.1,aJP hb h2.2.1 h2.2.2⟩
  .rename_i hb;let ⟨h1,h⟩:=bf h;cases h;simp only[bI] at h1;have h2:=hh.1;rw[gX] at h2;obtain rfl:=(f9 _ _).1 h1.1;obtain rfl:=(f9 _ _).1 h1.2.2.1;obtain rfl:=(f9 _ _).1 h1.2.2.2;exact ⟨h2,aCf hb ((f9 _ _).1 h1.2.1)⟩
  .cases h
 .cases h
structure GG (w:Bool) (Q:bB) (n:Nat) (Q':bB) (n':Nat) (R:bB):Prop where
 hw:w=I->n=Q.length
 hn:n<=Q.length
 n6:n<=1000000
 r6:R.length<=1000000
 eq:Q.take n++R=Q'
 len:Q'.length=n'
def aih {m:Nat} {ie:TI} (hi:E.ty.get t=V i) (hd:px i.desc=V e) (he:E.ty.get e=V ie) (qH:nv ie=I) (hw:pP H ie.size w=V (m,xs)) (hm:m<=1000000):
  nD E H new t v w=aT (Cz m 0) (aT (NT v) (V (v,[])) A) (sK v H new e ie.size m xs):=by
 unfold nD;rw[fM hi,fM hd];unfold QC;rw[fM he,qH];show aA (pP H ie.size w) (λq=>aT (D' q.1 1000000) (aT (Cz q.1 0) (aT (NT v) (V (v,[])) A) (sK v H new e ie.size q.1 q.2)) A)=_
 rw[fM hw];show aT (D' m 1000000) _ A=_;rw[(bO _ _).2 hm]
def auj (r:Rel F g Z c s T H) (hn:H new=A) {l:eG} {Q R:bB} {o:fN} {oR:Nat->fN} {ie:TI} (hi:E.ty.get t=V i) (hd:px i.desc=V e) (he:E.ty.get e=V ie) (qH:nv ie=I) (hv:VA F g v (.ms K ie.size 0 n)) (hw:pP H ie.size w=V (O R,xs)) (hx:TR F l xs R []) (hu:∀x∈R,O x=ie.size) (hoR:∀n,∀q∈oR n,n<=q.1/\∃v,xs[q.1-n]? =V v/\VA F g v q.2) (hko:K∉l8 ((oR (n*ie.size)).map (·.2))) (hq:n<=O Q) (AS:n<=1000000) (hR:O R<=1000000) (hz':z'=I->z=I/\n=O Q) (hb:lk K s.bs=V (.bG z e ie.size l Q o)):
  ∃v' us gk L',nD E H new t v w=V (v',us)/\VA F (j4 g K gk) v' (.ms K ie.size 0 (O (Q.take n++R)))/\fg F (j4 g K gk) K (.bG z' e ie.size l (Q.take n++R) (oR (n*ie.size))) L'/\(L'.map (·.1)).Nodup/\(∀p∈L',iH H us p.1=V p.2/\(c p.1=V K\/H p.1=A))/\(∀u∈us,u.1=new\/c u.1=V K)/\(iH H us new=A\/new∈L'.map (·.1)):=by
 have li:O (Q.take n++R)=n+O R:=by rw[gS,dv];omega
 have dq:O xs=O R*ie.size:=hx.length hu;have same:j4 g K (g K)=g:=funext λk=>by unfold j4;split<;>simp_all
 have AP:NT v=I:=by cases hv<;>rfl
 let ⟨_,nd,own⟩:=r.bx K _ hb;rw[aih hi hd he qH hw hR];have hho:∀{gk:GK} {old tl:bj},O old=n*ie.size->HoA F (j4 g K gk) (old++xs++tl) (oR (n*ie.size)):=λ{gk old tl} ho p hp=>by
  let ⟨h1,v,v1,v2⟩:=hoR _ p hp;have:=(bk.1 v1).1;refine ⟨v,?_,v2.same (.refl F) λk hk=>show j4 g K gk k=g k from au λ(ek:k=K)=>hko (ek ▸ D2 (dL.2 ⟨p,hp,rfl⟩) k hk)⟩
  rw[nc (by rw[gS];omega),nW W,ho]
  exact v1
 by_cases hR0:O R=0
 .obtain rfl:R= []:=qg.1 hR0;have gH:oR (n*ie.size)= []:=anQ.2 λp hp=>by
   let ⟨_,v,v1,_⟩:=hoR _ p hp;rw[qg.1 (show O xs=0 by rw[dq];exact nX _)] at v1
   cases v1
  rw[rE,gH,dv,fG hq];have go:∀L',fg F g K (.bG z' e ie.size l (Q.take n) []) L'->L'.Sublist (Z K)->∃v' us gk L',aT (Cz (O ([]:bB)) 0) (aT (NT v) (V (v,[])) A) (sK v H new e ie.size (O ([]:bB)) xs)=V (v',us)/\VA F (j4 g K gk) v' (.ms K ie.size 0 n)/\fg F (j4 g K gk) K (.bG z' e ie.size l (Q.take n) []) L'/\(L'.map (·.1)).Nodup/\(∀p∈L',iH H us p.1=V p.2/\(c p.1=V K\/H p.1=A))/\(∀u∈us,u.1=new\/c u.1=V K)/\(iH H us new=A\/new∈L'.map (·.1)):=λL' lL hs=>
   ⟨v,[],g K,L',by rw[AP];rfl,by rw[same];exact hv,by rw[same];exact lL,(hs.map _).nodup nd,λp hp=>⟨(own p (hs.subset hp)).1,.inl (own p (hs.subset hp)).2⟩,λ_ hu=>(by cases hu),.inl hn⟩
  rcases r.bG hb with ⟨rfl,_,Od,hφ⟩|⟨ta,svs,ae,hφ,hH,hz,vk,hc,q,_⟩
  .exact go [] (by simpa using .nil Od) (PB _)
  .let ⟨L',hs,q'⟩:=q.take n vk;have lm:=jv ie.size hq;rw[mC,fG lm] at q';refine go _ (.bG ta (λe0=> ?_) (λr hr=>vk r (oB hr)) ?_ ?_ λp hp=>by cases hp) (hφ ▸ hs.cons_cons _)
   .rw[(hz' e0).2,nj];exact hz (hz' e0).1
   .rw[dv,fG hq];cases hκ:(g K).c with
    |k m=>rw[hκ] at hc;exact ⟨lO hq hc.1,hc.2⟩
    |u e'=>rw[hκ] at hc;exact ⟨hc.1,lO lm hc.2⟩
   .rw[dv,fG hq];exact q'
 rw[show Cz (O R) 0=U from by
  cases hx:Cz (O R) 0 with
  |false=>rfl
  |true=>exact absurd ((f9 _ _).1 hx) hR0]
 show ∃v' us gk L',sK v H new e ie.size (O R) xs=V (v',us)/\_;have dd:Q.take n++R≠ []:=λhc=>hR0 (by rw[(anM.1 hc).2];rfl)
 have fresh:∀{us:ia} {old:bj} {L0:Ow},TR F l old (Q.take n) L0->O old=n*ie.size->(∀r∈Q.take n,O r=ie.size)->L0.Sublist (Z K)->iH H us new=V (.cells e (old++xs))->(∀p∈L0,iH H us p.1=H p.1)->(∀u∈us,u.1=new\/c u.1=V K)->sK v H new e ie.size (O R) xs=V (.sl new 0 (E' n (O R)) (.u e),us)->
   ∃v' us gk L',sK v H new e ie.size (O R) xs=V (v',us)/\VA F (j4 g K gk) v' (.ms K ie.size 0 (O (Q.take n++R)))/\fg F (j4 g K gk) K (.bG z' e ie.size l (Q.take n++R) (oR (n*ie.size))) L'/\(L'.map (·.1)).Nodup/\(∀p∈L',iH H us p.1=V p.2/\(c p.1=V K\/H p.1=A))/\(∀u∈us,u.1=new\/c u.1=V K)/\(iH H us new=A\/new∈L'.map (·.1)):=λ{us old L0} q ho vk hs rV hL mK FI=>by
  have eg:j4 g K ⟨new,.u e,I⟩ K=⟨new,.u e,I⟩:=ax rfl;have hl:O (old++xs)=O (Q.take n++R)*ie.size:=by rw[gS,ho,dq,li,gz]
  refine ⟨_,us,⟨new,.u e,I⟩,(new,.cells e (old++xs))::L0,FI,by rw[li];exact sw eg,?_,?_,λp hp=> ?_,mK,.inr am⟩
  .have:=fg.bG (F:=F) (g:=j4 g K ⟨new,.u e,I⟩) (K:=K) (z:=z') (e:=e) (s:=ie.size) (l:=l) (Q:=Q.take n++R) (o:=oR (n*ie.size)) (svs:=old++xs) (ae:=L0) (by rw[eg]) (λ_=>dd) (λx hx=>(fk.1 hx).elim (vk x) (hu x)) (by rw[eg];exact ⟨rfl,by rw[hl];exact cM _⟩) (by rw[<-hl,nj];simpa using q.append hx) (by simpa using hho (tl:= []) ho)
   rwa[eg] at this
  .rw[j2,qV];refine ⟨λhm=> ?_,(hs.map _).nodup nd⟩
   let ⟨p,hp,e0⟩:=dL.1 hm;have:=(own p (hs.subset hp)).1;rw[show p.1=new from e0,hn] at this;cases this
  .rcases cU.1 hp with rfl|hp
   .exact ⟨rV,.inr hn⟩
   .exact ⟨(hL p hp).trans (own p (hs.subset hp)).1,.inl (own p (hs.subset hp)).2⟩
 have one:∀{x:SO} {i:Nat},iH H [(new,V x)] i=if i=new then V x else H i:=λ{x i}=>rfl
 rcases r.bG hb with ⟨rfl,_,Od,hφ⟩|⟨ta,svs,ae,hφ,hH,hz,vk,hc,q,_⟩
 .have G8:v= .bY:=by
   cases hv with
   |sw=>rfl
   |zQ _ _ h0=>cases h0
   |ms _ _ _ qu=>rw[Od] at qu;cases qu
  subst G8;obtain rfl:n=0:=Es.1 hq;exact fresh (us:= [(new,V (.cells e xs))]) (old:= []) (L0:= []) (by simpa using .nil) am (λr hr=>by simp at hr) (PB _) (by rw[one,ax rfl];rfl) (λp hp=>by cases hp) (λu hu=>.inl (by rw[gy.1 hu])) (by rw[show E' 0 (O R)=O R from cN _];rfl)
 .have zd:v= .sl (g K).n 0 n (g K).c:=by
   cases hv with
   |sw s qu=>rw[ta] at qu;cases qu
   |zQ _ _ h0=>cases h0
   |ms=>rw[nX];cases (g K).c<;>rfl
  have hl:=pH hc;have lm:=jv ie.size hq;have ho:O (svs.take (n*ie.size))=n*ie.size:=by rw[dv];omega
  let ⟨L0,hs,q'⟩:=q.take n vk;rw[mC,fG lm] at q';have hut:∀r∈Q.take n,O r=ie.size:=λr hr=>vk r (oB hr)
  have hsK:L0.Sublist (Z K):=hφ ▸ hs.trans (List.sublist_cons_self _ _);rw[hφ] at nd own;have Yk:∀p∈L0,p.1≠(g K).n/\p.1≠new:=λp hp=>⟨λe0=>(qV.1 nd).1 (e0 ▸ dL.2 ⟨p,hs.subset hp,rfl⟩),λe0=>by
   have:=(own p (fj _ (hs.subset hp))).1;rw[e0,hn] at this;cases this⟩
  have hcK:=(own _ kr).2;have hold:lx H (g K).n 0 (N' n ie.size)=V (svs.take (n*ie.size)):=by
   unfold lx;rw[hH];show aT (D' (E' 0 (N' n ie.size)) (O svs)) (V ((svs.drop 0).take (n*ie.size))) A=_;rw[(bO _ _).2 (show E' 0 (N' n ie.size)<=O svs by rw[show E' 0 (N' n ie.size)=n*ie.size from cN _];omega)]
   rfl
  have hto:sK v H new e ie.size (O R) xs=adU new e ie.size (g K).n 0 n (g K).c (O R) xs (e,svs) (svs.take (n*ie.size)):=by
   rw[zd];show HA H new e ie.size (O R) xs (g K).n 0 n (g K).c=_;unfold HA;rw[(bO _ _).2 AS];show aT (adF n (O R) (g K).c) _ _=_;rw[cx];split
   .rename_i Oa;rw[fM hold];cases hκ:(g K).c with
    |u e'=>rw[hκ] at Oa;cases Oa
    |k m=>
     rw[hκ] at Oa;have Oa:m<n+O R:=(bO _ _).1 Oa;show _=aT (D' (E' n (O R)) m) _ _;rw[show D' (E' n (O R)) m=U from by
      cases hx:D' (E' n (O R)) m with
      |false=>rfl
      |true=>exact absurd ((bO _ _).1 hx) (by show ¬n+O R<=m;omega)]
   .exact F7 (by rw[hH];rfl) hold
  cases hκ:(g K).c with
  |u e'=>
   rw[hκ] at hc hto;obtain ⟨rfl,z6⟩:=hc;refine fresh (us:= [((g K).n,A),(new,V (.cells e' (svs.take (n*ie.size)++xs)))]) q' ho hut hsK ?_ (λp hp=> ?_) (λu hu=> ?_) ?_
   .show jG (jG H _) _ new=_;exact ax rfl
   .show jG (jG H _) _ p.1=_;exact (au (Yk p hp).2).trans (au (Yk p hp).1)
   .rcases cU.1 hu with rfl|hu
    .exact .inr hcK
    .exact .inl (by rw[gy.1 hu])
   .rw[hto];show aT (D' (E' 0 (N' n ie.size)) (O svs)&&Cz e' e') _ A=_;rw[(bO _ _).2 (show E' 0 (N' n ie.size)<=O svs by rw[show E' 0 (N' n ie.size)=n*ie.size from cN _];omega),(f9 e' e').2 rfl]
    rfl
  |k m=>
   rw[hκ] at hc hto;let ⟨rl,CQ⟩:=hc;have e1:adU new e ie.size (g K).n 0 n (.k m) (O R) xs (e,svs) (svs.take (n*ie.size))=aT (D' (E' n (O R)) m) (aT (D' (E' 0 (N' (E' n (O R)) ie.size)) (O svs)) (V (.sl (g K).n 0 (E' n (O R)) (.k m),[((g K).n,V (.cells e (eX svs (E' 0 (N' n ie.size)) xs)))])) A) (D1 new e (E' n (O R)) (svs.take (n*ie.size)++xs) []):=rfl;rw[e1] at hto;cases oM:D' (E' n (O R)) m with
   |false=>
    refine fresh (us:= [(new,V (.cells e (svs.take (n*ie.size)++xs)))]) q' ho hut hsK (by rw[one,ax rfl]) (λp hp=>by rw[one,au (Yk p hp).2]) (λu hu=>.inl (by rw[gy.1 hu])) (by rw[hto,oM];rfl)
   |true=>
    have hm:n+O R<=m:=(bO _ _).1 oM;have aHl:(n+O R)*ie.size<=O svs:=by rw[CQ];exact jv _ hm
    have hz0:E' 0 (N' n ie.size)=n*ie.size:=cN _;have hl3:O (svs.take (n*ie.size)++xs)=O (Q.take n++R)*ie.size:=by rw[gS,ho,dq,li,gz]
    rw[oM,(bO _ _).2 (show E' 0 (N' (E' n (O R)) ie.size)<=O svs by rw[show E' 0 (N' (E' n (O R)) ie.size)=(n+O R)*ie.size from cN _];exact aHl),hz0] at hto
    refine ⟨_,_,g K,((g K).n,.cells e (eX svs (n*ie.size) xs))::L0,hto,?_,?_,?_,λp hp=> ?_,λu hu=>.inr (by rw[gy.1 hu];exact hcK),.inl ?_⟩
    .rw[same,li];have:=VA.ms (F:=F) (g:=g) (K:=K) ie.size 0 (n+O R) ta;rw[nX,hκ] at this;exact this
    .have key:=fg.bG (F:=F) (g:=j4 g K (g K)) (K:=K) (z:=z') (e:=e) (s:=ie.size) (l:=l) (Q:=Q.take n++R) (o:=oR (n*ie.size)) (svs:=eX svs (n*ie.size) xs) (ae:=L0) (by rw[same];exact ta) (λ_=>dd) (λx hx=>(fk.1 hx).elim (hut x) (hu x)) (by rw[same,hκ,li,akz (by rw[dq,<-gz];exact aHl)];exact ⟨hm,CQ⟩) (by
      rw[<-hl3,show (eX svs (n*ie.size) xs)=svs.take (n*ie.size)++xs++svs.drop (n*ie.size+O xs) from rfl,asN];simpa using q'.append hx) (hho ho)
     rwa[same] at key ⊢
    .exact qV.2 ⟨λhm=>(qV.1 nd).1 ((hs.map _).subset hm),(hs.map _).nodup (qV.1 nd).2⟩
    .rcases cU.1 hp with rfl|hp
     .exact ⟨ax rfl,.inl hcK⟩
     .have:=own p (fj _ (hs.subset hp));exact ⟨(au (Yk p hp).1).trans this.1,.inl this.2⟩
    .exact (au λ(e0:new=(g K).n)=>by rw[e0,hH] at hn;cases hn).trans hn
def Yv (b:Builtin) (op:Op):G ((S'×S')×Ey×Ey):=
 match op with
 | .call c=>(match c.callee with
  | .builtin b'=>aT (A' (b'=b)) (match c.args.toList,c.argTypes.toList with
   | [a,y],[t1,t2]=>V ((a,y),t1,t2)
   |_,_=>A) A
  |_=>A)
 |_=>A
def GL {b:Builtin} {op:Op} (h:Yv b op=V q):∃c,op= .call c/\c.callee= .builtin b/\c.args.toList= [q.1.1,q.1.2]/\c.argTypes.toList= [q.2.1,q.2.2]:=by
 unfold Yv at h;split at h
 .rename_i c;split at h
  .rename_i b' hc;let ⟨h1,h2⟩:=bf h;clear h;have e:b'=b:=by simpa using h1
   split at h2
   .rename_i ha ht;cases h2;exact ⟨c,rfl,by rw[hc,e],ha,ht⟩
   .cases h2
  .cases h
 .cases h
def aEm (s:LS) (y:AV) (d:cC):G ((Nat×Nat)×Nat):=
 match y with
 | .ms K sz 0 n=>V ((K,n),sz)
 | .lit .bY=>aA d λK=>(match lk K s.bs with
  |some (.bG I _ sz _ [] _)=>V ((K,0),sz)
  |_=>A)
 |_=>A
def aKD {y:AV} {q:(Nat×Nat)×Nat} (h:aEm s y d=V q):y≠ .undef/\∀{F:Hf} {g:Gb} {Z:Nat->Ow} {c:Nat->cC} {T:Tf} {H:Hf} {v:SV},Rel F g Z c s T H->VA F g v y->VA F g v (.ms q.1.1 q.2 0 q.1.2):=by
 unfold aEm at h;split at h
 .cases h;exact ⟨am,λ_ hv=>hv⟩
 .let ⟨K,_,h⟩:=ak h;split at h
  .rename_i hb;cases h;refine ⟨am,λr hv=> ?_⟩
   cases hv;rcases r.bG hb with ⟨_,_,Od,_⟩|⟨_,_,_,_,_,hz,_⟩
   .exact .sw _ Od
   .exact absurd rfl (hz rfl)
  .cases h
 .cases h
def aEI (E:Env) (pn:Nat->Bool) (s:LS) (d:cC) (op:Op) (w:Bool) (rt:bB->Nat->bB->Prop) (fQ:bB->bB->bB) (fn:Nat->Nat) (kS:bB->Bool) (R:bB) (ob:Prop->cF):G nU:=
 aA (Yv .append op) λq=>cq (Ea E q.2.1) (E.ty.get q.2.2) λp i2=>aA (aEm s (dR s.ts q.1.1) d) λk=>(match lk k.1.1 s.bs with
  |some (.bG z e sz l Q _)=>aA (Z5 s p.2.size l (dR s.ts q.1.2) (rt Q k.1.2) R ob) λsc=>
   aT ((nv p.2&&(Bn i2.desc&&kS sc.R))&&((Cz k.2 p.2.size&&(Cz sz p.2.size&&Cz e p.1))&&(!pn k.1.1 && !nN k.1.1 (l8 ((sc.o (N' k.1.2 p.2.size)).map (·.2))))))
    (V ⟨sc.CB,(s.qd k.1.1).set k.1.1 (.bG (w&&z) e sz l (fQ Q sc.R) (sc.o (N' k.1.2 p.2.size))),.ms k.1.1 sz 0 (fn k.1.2),[k.1.1]⟩) A
  |_=>A)
def aqc {op:Op} {w:Bool} {rt:bB->Nat->bB->Prop} {fQ:bB->bB->bB} {kS:bB->Bool} {R:bB} {ob:Prop->cF} (hAP:∀Q n R,rt Q n R->kS R=I->GG w Q n (fQ Q R) (fn n) R) (gX:∀P,(ob P).need=P) {r:nU} (h:aEI E pn s d op w rt fQ fn kS R ob=V r):sL E pn op s r:=by
 let ⟨⟨⟨a,y⟩,t1,t2⟩,h1,h0⟩:=ak h;clear h;obtain ⟨cl,rfl,rl,CQ,hc3⟩:=GL h1;let ⟨p,i2,h2,h3,h⟩:=bV h0;clear h0;let ⟨⟨⟨K,n⟩,sz0⟩,h4,h⟩:=ak h;dsimp only at h;split at h
 .rename_i z e sz l Q o hb;let ⟨sc,h5,h⟩:=ak h;let ⟨h6,h⟩:=bf h;cases h;simp only[bI] at h6;let ⟨⟨k1,k2,k8⟩,⟨k3,k4,k5⟩,k6,k7⟩:=h6;intro hh;let ⟨hA0,hS⟩:=P3 gX h5 hh;have hA:=hAP _ _ _ hA0 k8;let ⟨d1,d2⟩:=aKD h4;obtain rfl:=(f9 _ _).1 k3;obtain rfl:=(f9 _ _).1 k4;obtain rfl:=(f9 _ _).1 k5;let ⟨i,hi,he,pi⟩:=sG h2;rw[<-hA.len,<-hA.eq];refine .boxG (λr=>r.qd K) λ{F g Z c T H new} r hn=> ?_
  let ⟨v,v1,v2⟩:=r.val rfl d1;let ⟨x,w1,w2⟩:=r.val rfl hS.1;let ⟨xs,x1,x2,x3,x4⟩:=hS.2 r w2;let ⟨v',us,gk,L',u1,u2,u3,u4,u5,u6,u7⟩:=auj (z':=w&&z) r hn hi he pi k1 (d2 r v2) x1 x2 x3 x4 ((λhm=>Qd (by simpa using k7) K hm rfl)) hA.hn hA.n6 hA.r6 (λhz=>by rw[bI] at hz;exact ⟨hz.2,hA.hw hz.1⟩) hb
  refine ⟨v',us,gk,L',?_,u2,u3,u4,u5,u6,.inr ⟨by simpa using k6,aAp s K⟩,u7⟩
  show qj E T H new cl=_;unfold qj;rw[rl];show aA (gN T cl.args.toList) (λaa=>oF E H new .append aa cl.argTypes.toList)=_
  rw[CQ,hc3];have e1:gN T [a,y]=V [v,x]:=by
   show cq (dy T a) (cq (dy T y) (V []) λv l=>V (v::l)) (λv l=>V (v::l))=_
   rw[v1,w1];rfl
  rw[e1];show aA (E.ty.get t2) (λi=>aT (Bn i.desc) (nD E H new t1 v x) A)=_
  rw[fM h3,k2];exact u1
 .cases h
def appI (E:Env) (pn:Nat->Bool) (s:LS) (d:cC) (op:Op) (w:Bool) (R Q':bB) (n':Nat) (ob:Prop->cF):G nU:=aEI E pn s d op w (λQ n R=>GG w Q n Q' n' R) (λ_ _=>Q') (λ_=>n') (λ_=>I) R ob
def TapP (Q:bB) (n:Nat):Prop:=n=O Q/\n<=1000000
def tapI (E:Env) (pn:Nat->Bool) (s:LS) (d:cC) (op:Op) (ob:Prop->cF):G nU:=aEI E pn s d op I (λQ n _=>TapP Q n) (λQ R=>Q++R) S6 (λR=>Cz (O R) 1) [] ob
def aKX {op:Op} {w:Bool} {R Q':bB} {ob:Prop->cF} (gX:∀P,(ob P).need=P) {r:nU} (h:appI E pn s d op w R Q' n' ob=V r):sL E pn op s r:=aqc (λ_ _ _ h _=>h) gX h
def aJr {op:Op} {ob:Prop->cF} (gX:∀P,(ob P).need=P) {r:nU} (h:tapI E pn s d op ob=V r):sL E pn op s r:=aqc (λQ n R h hc=>by
 obtain ⟨rfl,h6⟩:=h;have hc:O R=1:=(f9 _ _).1 hc;exact ⟨λ_=>rfl,cM _,h6,W,by rw[nj],by rw[gS,hc]⟩) gX h
def aFj (Q Q':bB) (lo n m:Nat) (R:bB):Prop:=lo+n<=O Q/\1<=n/\m=min (O R) n/\Q'=Q.take lo++(R.take m++Q.drop (lo+m))
def cpyI (E:Env) (s:LS) (op:Op) (R Q':bB) (m:Nat) (ob:Prop->cF):G nU:=
 aA (Yv .copy op) λq=>aA (Ea E q.2.1) λp=>(match dR s.ts q.1.1 with
  | .ms K sz lo n=>(match lk K s.bs with
   |some (.bG z e Cr [] Q [])=>aA (Z5 s p.2.size [] (dR s.ts q.1.2) (aFj Q Q' lo n m) R ob) λsc=>aT (nv p.2&&(Cz sz p.2.size&&Cz Cr p.2.size)) (V ⟨sc.CB,s.set K (.bG z e Cr [] Q' []),.int .i64 (m:Int),[K]⟩) A
   |_=>A)
  |_=>A)
def aKI {op:Op} {R Q':bB} {m:Nat} {ob:Prop->cF} (gX:∀P,(ob P).need=P) {r:nU} (h:cpyI E s op R Q' m ob=V r):sL E pn op s r:=by
 let ⟨⟨⟨a,y⟩,t1,t2⟩,h1,h0⟩:=ak h;clear h;obtain ⟨cl,rfl,rl,CQ,hc3⟩:=GL h1;let ⟨p,h2,h⟩:=ak h0;clear h0;dsimp only at h;split at h
 .rename_i K sz lo n ha;split at h
  .rename_i z e Cr Q hb;let ⟨sc,h5,h⟩:=ak h;let ⟨h6,h⟩:=bf h;cases h;simp only[bI] at h6;let ⟨k1,k2,k3⟩:=h6;intro hh;let ⟨⟨q1,q2,q3,q4⟩,hS⟩:=P3 gX h5 hh;obtain rfl:=(f9 _ _).1 k2;obtain rfl:=(f9 _ _).1 k3;let ⟨i,hi,he,pi⟩:=sG h2;refine .wr hb λ{F g Z c T H} r=> ?_
   let ⟨v,v1,v2⟩:=r.val ha am
   let ⟨x,w1,w2⟩:=r.val rfl hS.1;let ⟨xs,x1,x2,x3,_⟩:=hS.2 r w2;rcases r.bG hb with ⟨hQ,_⟩|⟨ta,svs,ae,hφ,hH,hz,hu,hc,q,ho⟩
   .rw[hQ] at q1;simp at q1;omega
   have hv:v= .sl (g K).n (lo*p.2.size) n (A6 (g K).c lo):=by
    cases v2 with
    |sw=>omega
    |ms=>rfl
    |zQ=>omega
   subst hv;have jL:=pH hc;have hmR:m<=O sc.R:=by omega
   have hmn:m<=n:=by omega
   have hxl:O xs=O sc.R*p.2.size:=x2.length x3;have hms:m*p.2.size<=O sc.R*p.2.size:=jv _ hmR;have hxt:O (xs.take (m*p.2.size))=m*p.2.size:=by rw[dv];omega
   have Oc:lo*p.2.size+m*p.2.size<=O Q*p.2.size:=by rw[<-gz];exact jv _ W
   have hQl:O Q'=O Q:=by rw[q4];simp;omega
   let ⟨A1,B1,eL,p1,p2⟩:=q.cut lo hu;let ⟨A2,B2,eL2,_,p4⟩:=p2.cut m λr hr=>hu r (nh hr)
   let ⟨A3,B3,eL3,p5,_⟩:=x2.cut m x3;obtain ⟨rfl,rfl⟩:A3= []/\B3= []:=by simpa using eL3.symm
   have q':=p1.append (p5.append p4);refine ⟨.int .i64 (.lit (.ofNat m)),.cells e svs,.cells e (eX svs (lo*p.2.size) (xs.take (m*p.2.size))),ae,A1++([]++B2),hφ,λnew=> ?_,.lit _,.bG ta (λhz0 e0=> ?_) (λr hr=> ?_) ?_ ?_ (λp hp=>by cases hp),?_⟩
   .show qj E T H new cl=_;unfold qj;rw[rl];show aA (gN T cl.args.toList) (λaa=>oF E H new .copy aa cl.argTypes.toList)=_
    rw[CQ,hc3];have e1:gN T [a,y]=V [.sl (g K).n (lo*p.2.size) n (A6 (g K).c lo),x]:=by
     show cq (dy T a) (cq (dy T y) (V []) λv l=>V (v::l)) (λv l=>V (v::l))=_
     rw[v1,w1];rfl
    rw[e1];show B8 E H t1 (.sl (g K).n (lo*p.2.size) n (A6 (g K).c lo)) x=_;unfold B8;rw[fM hi,fM he];unfold atB;rw[fM pi,k1];show cq (V n) (pP H p.2.size x) (λnd q=>F4 (.sl (g K).n (lo*p.2.size) n (A6 (g K).c lo)) H p.2.size (aT (D' q.1 nd) q.1 nd) q.2)=_
    rw[F7 rfl x1];have em:aT (D' (O sc.R) n) (O sc.R) n=m:=by
     rw[cx];split
     .rename_i lm;have:=(bO _ _).1 lm;omega
     .rename_i lm;have:¬O sc.R<=n:=λh=>lm ((bO _ _).2 h)
      omega
    show JE H p.2.size (aT (D' (O sc.R) n) (O sc.R) n) xs (g K).n (lo*p.2.size)=_;rw[em];unfold JE;rw[hH];show aT (D' (lo*p.2.size+m*p.2.size) (O svs)) _ A=_;rw[(bO _ _).2 (show lo*p.2.size+m*p.2.size<=O svs by omega)]
    rfl
   .have:=bH O e0;rw[hQl] at this;exact hz hz0 (qg.1 this)
   .rw[q4] at hr;rcases fk.1 hr with hr|hr
    .exact hu r (oB hr)
    .rcases fk.1 hr with hr|hr
     .exact x3 r (oB hr)
     .exact hu r (nh hr)
   .rw[hQl,akz W];exact hc
   .have es:eX (svs.take (O Q*p.2.size)) (lo*p.2.size) (xs.take (m*p.2.size))=(svs.take (O Q*p.2.size)).take (lo*p.2.size)++(xs.take (m*p.2.size)++((svs.take (O Q*p.2.size)).drop (lo*p.2.size)).drop (m*p.2.size)):=by
     unfold eX;rw[l6,tF,hxt];rfl
    rw[hQl,abt W jL,es,q4]
    simp only[tF] at q' ⊢;exact q'
   .rw[eL,eL2];exact List.Sublist.append (.refl _) (PC ..)
  .cases h
 .cases h
end
section
variable {F F':Hf} {g g':Gb} {Z:Nat->Ow} {c:Nat->cC} {s s':LS} {T:Tf} {H:Hf} {E:Env} {pn:Nat->Bool}
variable {hi:G S'} {c2:cC} {e':Ey} {pos:Nat}
def cvS (m e s:Nat) (x:AV):AV:=
 match x with
 | .lit .bY=>.sl m e s 0 []
 | .sl m' e' s' n Q=>.sl (aT (Cz m 2||(Cz m 0 && !Cz m' 2)) m m') e' s' n Q
 |x=>x
def aMS {m e:Nat} {x:AV} (q:VA F g v x):VA F g v (cvS m e sz x):=by
 unfold cvS;split
 .cases q;exact .nil _ _ _
 .rw[cx];split
  .rename_i h;have hm:m=2\/m=0:=by
    rw[tG,bI] at h;exact h.imp (f9 _ _).1 λh=>(f9 _ _).1 h.1
   cases q with
   |nil=>exact .nil _ _ _
   |sle=>
    rcases hm with rfl|rfl
    .exact .sle _ _
    .cases h
   |sl hn hF hc _ hu hl q=>exact .sl hn hF hc ⟨λe=>W,λe=>W⟩ hu hl q
  .exact q
 .exact q
def cvG (k:bg->bg) (x:AV):AV:=
 match x with
 | .agg cs=>.agg (k cs)
 | .lit (.agg vs)=>.agg (k (yg vs))
 | .dh cs=>.dh (k cs)
 |x=>x
def aAC {k:bg->bg} (hk:∀{vs xs},dS F g vs xs->dS F g vs (k xs)) {x:AV} (q:VA F g v x):VA F g v (cvG k x):=by
 unfold cvG;split
 .cases q with|agg h=>exact .agg (hk h)
 .cases q;exact .agg (hk tU)
 .cases q with|dh h=>exact .dh (hk h)
 .exact q
def cvI (k:AV->AV):AV->AV
 | .kN t x=>.kN t (k x)
 |x=>x
def aMT {k:AV->AV} {x:AV} (hk:∀{x v},VA F g v x->VA F g v (k x)) (q:VA F g v x):VA F g v (cvI k x):=by
 unfold cvI;split
 .cases q with|kN _ h=>exact .kN _ (hk h)
 .exact q
mutual
def cv:AV->AV->AV
 | .sl m e s _ _,x=>cvS m e s x
 | .agg ws,x=>cvG (λxs=>Oz ws xs) x
 | .dh ws,x=>cvG (λxs=>Oz ws xs) x
 | .kN _ w,x=>cvI (λx=>cv w x) x
 | .undef,_=>.undef
 |_,x=>x
def Oz:bg->bg->bg
 |w::ws,x::xs=>cv w x::Oz ws xs
 |_,xs=>xs
end
mutual
def Ec:∀{w x:AV} {v:SV},VA F g v x->VA F g v (cv w x)
 | .sl m e s _ _,_,_,q=>aMS q
 | .agg ws,x,v,q=>aAC (λq=>JD q) q
 | .dh ws,x,v,q=>aAC (λq=>JD q) q
 | .kN _ w,x,v,q=>aMT (λq=>Ec q) q
 | .undef,_,v,_=>.undef v
 | .lit _,_,_,q| .kX _,_,_,q| .fn _ _ _,_,_,q| .el _ _ _ _,_,_,q| .ms _ _ _ _,_,_,q| .mp _,_,_,q| .it _,_,_,q=>q
def JD:∀{ws xs:bg} {vs:bj},dS F g vs xs->dS F g vs (Oz ws xs)
 | [],_,_,q=>q
 |_::_,_,_,.nil=>.nil
 |_::_,_,_,.cons h t=>.cons (Ec h) (JD t)
end
def cvO:fN->fN->fN
 |w::ws,p::o=>(p.1,cv w.2 p.2)::cvO ws o
 |_,o=>o
def aAB {svs:bj}:∀{w o:fN},HoA F g svs o->HoA F g svs (cvO w o)
 | [],_,h=>h
 |_::_,[],h=>h
 |w::ws,p::o,h=>λq hq=>by
  rcases cU.1 (show q∈(p.1,cv w.2 p.2)::cvO ws o from hq) with rfl|hq
  .let ⟨v,v1,v2⟩:=h p am
   exact ⟨v,v1,Ec v2⟩
  .exact aAB (λp hp=>h p (fj _ hp)) q hq
def cvB (w b:Bx):Bx:=
 match w,b with
 | .flat _ ws,.flat e cs=>.flat e (Oz ws cs)
 | .bG z' _ _ _ _ o',.bG z e s l Q o=>.bG (z&&z') e s l Q (cvO o' o)
 |_,b=>b
def aMU {w b:Bx} {ae:Ow} (q:fg F g k b ae):fg F g k (cvB w b) ae:=by
 unfold cvB;split
 .cases q with|flat q=>exact .flat (JD q)
 .rename_i o' z e s l Q o;cases q with
  |nil hb=>cases o'<;>exact .nil hb
  |bG hb hz hu hc q ho=>exact .bG hb (λh=>hz (j3.1 h).1) hu hc q (aAB ho)
 .exact q
def UY (ts:fN):G S'->G (G Int)
 |none=>V A
 |some x=>(match dR ts x with| .lit (.int _ (.lit n))=>V (V n)|_=>A)
def Vw (r:Rel F g Z c s T H) {o:G S'} {b:G Int} {d:Nat} (hb:UY s.ts o=V b) (hn:b.getD d=(n:Int)):∃c,kF T o=V c/\c.getD d=n/\(d=0\/d=n->n=0->pJ c=I):=by
 cases o with
 |none=>
  cases hb;exact ⟨A,rfl,asi hn,λ_ _=>rfl⟩
 |some x=>
  have hb:(match dR s.ts x with| .lit (.int _ (.lit n))=>V (V n)|_=>A)=V b:=hb
  split at hb
  .rename_i k m hv;cases hb;obtain rfl:m=(n:Int):=hn;let ⟨v,v1,v2⟩:=r.val hv am
   cases v2;exact ⟨V n,by show aA (dy T x) (λv=>aA (ph v) λn=>V (V n))=_;rw[v1];rfl,rfl,λ_ h=>(f9 _ _).2 h⟩
  .cases hb
def Bi {ie:TI} (sD:E.ty.get t=V i) (hd:px i.desc=V e) (he:E.ty.get e=V ie) (hv:dy T a=V v) (h1:kF T lo=V c1) (h2:kF T hi=V c2):
  vf E (.slice t a lo hi A) T H new=same (Fc v E e c1 c2 A):=by
 show one T a (λv=>uQ (kF T lo) (kF T hi) (V A) λl u m=>same (zx E t v l u m))=_
 unfold one;rw[hv,h1,h2];show same (zx E t v c1 c2 A)=_;unfold zx;rw[sD];show same (ahu i.desc E v c1 c2 A)=_;rw[sP hd];show same (aA (E.ty.get e) λ_=>Fc v E e c1 c2 A)=_
 rw[he];rfl
def ahs {ie:TI} {id u:Nat} {cp:Cp} (pi:E.ty.get e=V ie) (d1:c1.getD 0=l) (d2:c2.getD n=u) (hlu:l<=u) (hu:u<=n) (hc:Vt e n cp):Fc (.sl id off n cp) E e c1 c2 A=V (BE id off l u ie.size cp):=by
 show xe E e id off n cp c1 c2 A=_;unfold xe;rw[fM pi,d1,d2];have e1:(I2 cp e&&(D' l u&&(D' u (reach cp n)&&Qe A u (reach cp n))))=I:=by
  rw[(bO _ _).2 hlu];cases cp with
  |k m=>rw[show D' u (reach (.k m) n)=I from (bO _ _).2 (lO hu hc)];rfl
  |u e'=>rw[show D' u (reach (.u e') n)=I from (bO _ _).2 hu,show I2 (.u e') e=I from (f9 _ _).2 hc];rfl
 rw[e1];rfl
def Vu (lo hi:Int) (n l u:Nat):Prop:=lo=(l:Int)/\hi=(u:Int)/\l<=u/\u<=n
def CutR (Q:bB) (lo hi:Int) (R:bB) (n:Nat):Prop:=∃l u,Vu lo hi (O Q) l u/\(Q.drop l).take (u-l)=R/\O R=n
def UZ (m:Nat) (lo:G S'):Nat:= @Option.rec _ (λ_=>Nat) (aT (Cz m 2) 2 0) (λ_=>2) lo
def aAD {m:Nat} {P Q:Prop}:(UZ m lo=1->P)/\(UZ m lo=3->Q):=by
 unfold UZ;cases lo with
 |none=>constructor<;>(intro h;have h:aT (Cz m 2) 2 0=_:=h;rw[cx] at h;split at h<;>cases h)
 |some=>constructor<;>(intro h;cases h)
def aCa (c:Cp) (a b:Nat):A6 (A6 c a) b=A6 c (a+b):=by
 cases c with
 |k m=>exact bH Cp.k (Nat.sub_sub m a b)
 |u e=>rfl
def aEv {id u s':Nat} {m:Nat} {cp:Cp} {Q:bB} (hn:O Q=n) (hF:jD (F id) off (n*s')=V (e',svs)) (hu:∀r∈Q,O r=s') (hl:off+n*s'<=O svs) (hq:dS F mn ((svs.drop off).take (n*s')) Q.flatten) (h1:l<=u) (h2:u<=n) (hc:Vt e n cp) (h0:lo=A->l=0):VA F g (BE id off l u s' cp) (.sl (UZ m lo) e s' (u-l) ((Q.drop l).take (u-l))):=by
 subst hn;have li:O ((Q.drop l).take (u-l))=u-l:=by rw[dv,iz];omega
 have mK:∀r∈(Q.drop l).take (u-l),O r=s':=λr hr=>hu r (nh (oB hr))
 have lm:l*s'+(u-l)*s'<=O Q*s':=by rw[<-gz];exact jv _ W
 have hq2:dS F mn ((svs.drop (off+l*s')).take ((u-l)*s')) ((Q.drop l).take (u-l)).flatten:=by
  have:=(hq.drop (l*s')).take ((u-l)*s');rwa[wX,mC,tF,fG W,<-ajm hu] at this
 unfold BE;rw[cx,cx];split
 .rename_i e0;obtain rfl:=(f9 _ _).1 e0;rw[nX] at lm hq2;rw[Nat.sub_zero] at*;refine .sl li (xq hF (cM _) W) ?_ aAD mK W (by simpa using hq2)
  cases cp with
  |k m=>exact lO h2 hc
  |u e'=>exact hc
 .rename_i e0;split
  .refine .sl li (xq hF (show off<=off+l*s' from Py _ _) (show off+l*s'+(u-l)*s'<=off+O Q*s' by omega)) ?_ aAD mK (show off+l*s'+(u-l)*s'<=O svs by omega) hq2
   cases cp with
   |k m=>exact (show u-l<=m-l from Nat.sub_le_sub_right (lO h2 hc) l)
   |u e'=>exact hc
  .rename_i cT;obtain rfl:u=l:=by
    have:¬l<u:=λhc=>cT ((bO _ _).2 hc)
    omega
   rw[qT,zn];cases lo with
   |none=>exact absurd ((f9 _ _).2 (h0 rfl)) e0
   |some=>exact .sle e s'
def aEw (E:Env) (s:LS) (op:Op) (l u:Nat) (R:bB) (n':Nat) (ob:Prop->cF):G nU:=
 match op with
 | .slice t a lo hi A=>aA (Ea E t) λp=>cq (UY s.ts lo) (UY s.ts hi) λb1 b2=>(match dR s.ts a with
  | .sl m e sz n Q=>aT (Cz e p.1&&Cz sz p.2.size) (V ⟨[ob (CutR Q (b1.getD 0) (b2.getD (n:Nat)) R n')],s,.sl (UZ m lo) e sz n' R,[]⟩) A
  | .ms K sz lo0 n=>(match lk K s.bs with
   |some (.bG _ e Cr _ Q _)=>aT (Cz e p.1&&(Cz sz p.2.size&&Cz Cr p.2.size)) (V ⟨[ob (Vu (b1.getD 0) (b2.getD (n:Nat)) n l u/\lo0+n<=O Q)],s,.ms K sz (E' lo0 l) (Nat.sub u l),[]⟩) A
   |_=>A)
  |_=>A)
 |_=>A
def aKF {op:Op} {u:Nat} {R:bB} {ob:Prop->cF} (gX:∀P,(ob P).need=P) {r:nU} (h:aEw E s op l u R n' ob=V r):sL E pn op s r:=by
 unfold aEw at h;split at h
 .rename_i t a lo hi;let ⟨p,hp,h⟩:=ak h;let ⟨b1,b2,h1,h2,h⟩:=bV h;let ⟨i,sD,he,pi⟩:=sG hp;split at h
  .rename_i m e sz n Q ha;let ⟨h3,h⟩:=bf h;cases h;rw[bI] at h3;obtain rfl:=(f9 _ _).1 h3.1;obtain rfl:=(f9 _ _).1 h3.2;intro hh;have hc:=hh.1;rw[gX] at hc;obtain ⟨l,u,⟨c1,c2,c3,c4⟩,rfl,rfl⟩:=hc;refine .val λ{F g Z c T H} r=> ?_
   let ⟨v,v1,v2⟩:=r.val ha am
   have hn:O Q=n:=by cases v2<;>first|rfl|assumption
   rw[hn] at c4;have li:O ((Q.drop l).take (u-l))=u-l:=by rw[dv,iz];omega
   let ⟨d1,f1,f2,f3⟩:=Vw (d:=0) r h1 c1;let ⟨d2,k1,k2,k3⟩:=Vw (d:=n) r h2 c2;have h0:lo=A->l=0:=λe=>by subst e;cases h1;exact (asi c1).symm
   rw[li];generalize hm:UZ m lo=m' at*;cases v2 with
   |nil=>
    have hu0:u=0:=Es.1 c4;have AT:l=0:=by omega
    subst hu0;subst AT;refine ⟨.bY,λnew=> ?_,.nil _ _ _⟩
    rw[Bi sD he pi v1 f1 k1];show same (aT (pJ d1&&(pJ d2&&I)) (V SV.bY) A)=_;rw[f3 (.inl rfl) rfl,k3 (.inl rfl) rfl];rfl
   |sle=>
    have hu0:u=0:=Es.1 c4;have AT:l=0:=by omega
    subst hu0;subst AT;refine ⟨.sle,λnew=> ?_,?_⟩
    .rw[Bi sD he pi v1 f1 k1];show same (aT (pJ d1&&(pJ d2&&I)) (V SV.sle) A)=_;rw[f3 (.inl rfl) rfl,k3 (.inl rfl) rfl];rfl
    .rw[<-hm];cases lo<;>exact .sle _ _
   |sl _ hF hct _ hu hl q=>
    refine ⟨_,λnew=> ?_,by rw[<-hm];exact aEv hn hF hu hl q c3 c4 hct h0⟩
    rw[Bi sD he pi v1 f1 k1,ahs pi f2 k2 c3 c4 hct];rfl
  .rename_i K sz lo0 n ha;split at h
   .rename_i z e Cr l' Q o hb;let ⟨h3,h⟩:=bf h;cases h;simp only[bI] at h3;obtain rfl:=(f9 _ _).1 h3.1;obtain rfl:=(f9 _ _).1 h3.2.1;obtain rfl:=(f9 _ _).1 h3.2.2;intro hh;have hc:=hh.1;rw[gX] at hc;let ⟨⟨c1,c2,c3,c4⟩,hn⟩:=hc;refine .val λ{F g Z c T H} r=> ?_
    let ⟨v,v1,v2⟩:=r.val ha am
    let ⟨d1,f1,f2,f3⟩:=Vw (d:=0) r h1 c1;let ⟨d2,k1,k2,k3⟩:=Vw (d:=n) r h2 c2;show ∃v,(∀new,_)/\VA F g v (.ms K p.2.size (lo0+l) (u-l));cases v2 with
    |sw _ qu=>
     have hu0:u=0:=Es.1 c4;have AT:l=0:=by omega
     subst hu0;subst AT;refine ⟨.bY,λnew=> ?_,.sw _ qu⟩
     rw[Bi sD he pi v1 f1 k1];show same (aT (pJ d1&&(pJ d2&&I)) (V SV.bY) A)=_;rw[f3 (.inl rfl) rfl,k3 (.inl rfl) rfl];rfl
    |zQ _ _ h0=>
     have hu0:u=0:=Es.1 c4;have AT:l=0:=by omega
     subst hu0;subst AT;refine ⟨.sle,λnew=> ?_,.zQ _ _ h0⟩
     rw[Bi sD he pi v1 f1 k1];show same (aT (pJ d1&&(pJ d2&&I)) (V SV.sle) A)=_;rw[f3 (.inl rfl) rfl,k3 (.inl rfl) rfl];rfl
    |ms _ _ _ qu=>
     rcases r.bG hb with ⟨_,_,h,_⟩|⟨_,svs,ae,_,hH,_,hu,jL,_,_⟩
     .rw[h] at qu;cases qu
     have hct:Vt p.1 n (A6 (g K).c lo0):=by
      cases hκ:(g K).c with
      |k m=>rw[hκ] at jL;have:=jL.1;exact (show n<=m-lo0 by omega)
      |u e'=>rw[hκ] at jL;exact jL.1
     refine ⟨_,λnew=>by rw[Bi sD he pi v1 f1 k1,ahs pi f2 k2 c3 c4 hct];rfl,?_⟩
     unfold BE;rw[cx,cx];split
     .rename_i e0;obtain rfl:=(f9 _ _).1 e0;exact .ms _ lo0 u qu
     .rename_i e0;have e0:l≠0:=λh=>e0 ((f9 _ _).2 h)
      split
      .rw[aCa,show E' (lo0*p.2.size) (N' l p.2.size)=(lo0+l)*p.2.size from (gz _ _ _).symm];exact .ms _ (lo0+l) (u-l) qu
      .rename_i cT;obtain rfl:u=l:=by
        have:¬l<u:=λhc=>cT ((bO _ _).2 hc)
        omega
       rw[qT];exact .zQ _ _ W
   .cases h
  .cases h
 .cases h
def Qo (K:Nat):fN->Bool
 | []=>I
 |p::l=> !nN K (kU p.2)&&Qo K l
def Vd (K:Nat):de->Bool
 | []=>I
 |p::l=>(Cz p.1 K|| !nN K p.2.keys)&&Vd K l
def Ld {l:bQ} (h:(!nN K l)=I):K∉l:=λhm=>Qd (by simpa using h) K hm rfl
def afJ {K:Nat}:∀{ts:fN},Qo K ts=I->∀t x,lk t ts=V x->K∉kU x
 |(k,y)::l,hf,t,x,hx=>by
  have hf:=j3.1 (show (!nN K (kU y)&&Qo K l)=I from hf);rw[dH] at hx;split at hx
  .cases hx;exact Ld hf.1
  .exact afJ hf.2 t x hx
def ajh {K:Nat}:∀{bs:de},Vd K bs=I->∀k b,k≠K->lk k bs=V b->K∉b.keys
 |(k',b')::l,hf,k,b,dd,hx=>by
  have hf:=j3.1 (show ((Cz k' K|| !nN K b'.keys)&&Vd K l)=I from hf);rw[dH] at hx;split at hx
  .rename_i e;cases hx;rcases (tG _ _).mp hf.1 with h|h
   .exact absurd (e.trans ((f9 _ _).1 h)) dd
   .exact Ld h
  .exact ajh hf.2 k b dd hx
def Hg (s:LS) (K:Nat):Bool:=Qo K s.ts&&Vd K s.bs
def yG (hf:Hg s K=I):s.free K:=
 have hf:=j3.1 (show (Qo K s.ts&&Vd K s.bs)=I from hf)
 ⟨afJ hf.1,ajh hf.2⟩
def MkP (n1 n2:Int) (z:bg) (Q:bB) (l:Nat):Prop:=∃m:Nat,n1=(l:Int)/\n2=(m:Int)/\l<=m/\m<=1000000/\Va l z=Q
def tabN {id s:Nat} {cp:Cp} {l:eG} {Q:bB} (h:g K=⟨id,cp,I⟩) (hu:∀r∈Q,O r=s) (hc:Az e s (O Q) (O svs) cp) (q:TR F l (svs.take (O Q*s)) Q []):fg F g K (.bG U e s l Q []) [(id,.cells e svs)]:=by
 have:=fg.bG (F:=F) (g:=g) (K:=K) (z:=U) (e:=e) (by rw[h]) (λh=>by cases h) hu (by rw[h];exact hc) q (o:= []) (λp hp=>by cases hp)
 rwa[h] at this
def mkC (sh:Sh) (w:AV) (v:SV):AV:=
 match sh with
 | .d=>cv w (.lit v)
 | .o b _=>(match v,w with
  | .bY,.sl _ e s _ _=>zw b e s 0 []
  |_,_=>.undef)
def mkT:eG->bg->bj->bg
 |_,_,[]=> []
 |sh,ws,v::vs=>mkC (sh.headD .d) (ws.headD .bY) v::mkT sh.tail ws.tail vs
def aMD {F:Hf} {sh:Sh} {w:AV}:TC F sh v (mkC sh w v) []:=by
 cases sh with
 |d=>exact .d (Ec (.lit v))
 |o b l=>
  show TC F (.o b l) v (match v,w with| .bY,.sl _ e s _ _=>zw b e s 0 []|_,_=>.undef) []
  split
  .exact .nil
  .exact .any _
def aim {F:Hf}:∀{vs:bj} {sh:eG} {ws:bg},lN F sh vs (mkT sh ws vs) []
 | [],_,_=>.nil
 |v::vs,sh,ws=>.cons (a:= []) aMD aim
def mkI (E:Env) (pn:Nat->Bool) (s:LS) (d:cC) (op:Op) (z:bg) (Q:bB) (l:Nat) (sh:eG) (ob:Prop->cF):G nU:=
 match op with
 | .makeSlice t a c=>cq (Ea E t) d λp K=>(match dR s.ts a,dR s.ts c with
  | .lit (.int _ (.lit n1)),.lit (.int _ (.lit n2))=>aT (nv p.2&&(!pn K&&Hg s K)) (V ⟨[ob (MkP n1 n2 (mkT sh z p.2.zero) Q l)],s.set K (.bG U p.1 p.2.size sh Q []),.ms K p.2.size 0 l,[K]⟩) A
  |_,_=>A)
 |_=>A
def ahH {z:bj}:∀{l m:Nat},l<=m->(rep z m).take (l*O z)=rep z l
 |0,_,_=>by simp[rep]
 |l+1,0,h=>W
 |l+1,m+1,h=>by
  show (z++rep z m).take _=z++rep z l;rw[gz,tC,Et,IP,ahH W]
def aMC {op:Op} {z:bg} {Q:bB} {sh:eG} {ob:Prop->cF} (gX:∀P,(ob P).need=P) {r:nU} (h:mkI E pn s d op z Q l sh ob=V r):sL E pn op s r:=by
 unfold mkI at h;split at h
 .rename_i t a c;let ⟨p,K,hp,hd,h⟩:=bV h;split at h
  .rename_i n1 _ n2 ha hc;let ⟨h1,h⟩:=bf h;cases h;simp only[bI] at h1;let ⟨k1,k2,k3⟩:=h1;intro hh;have hm:=hh.1;rw[gX] at hm;obtain ⟨m,rfl,rfl,hlm,hm6,rfl⟩:=hm;let ⟨i,hi,he,pi⟩:=sG hp;have oG:=abd k1;have hzl:O (mkT sh z p.2.zero)=p.2.size:=by rw[<-(aim (F:=λ_=>A)).length,oG]
   refine .lay (by simpa using k2) (yG k3) λ{F g Z c T H new} r=> ?_
   let ⟨v,v1,v2⟩:=r.val ha am
   let ⟨w,w1,w2⟩:=r.val hc am
   cases v2;cases w2;refine ⟨.sl new 0 l (.k m),.cells p.1 (rep p.2.zero m),.k m,?_,λg' e1 e2=>⟨sw e1,tabN e1 (λr hr=>by rw[List.eq_of_mem_replicate hr];exact hzl) ?_ ?_⟩⟩
   .show two T a _ (λu v=>cq (ph u) (ph v) (Jh E new t))=_
    rw[two,v1,w1];show Jh E new t l m=_;unfold Jh;rw[fM hi,fM he,fM pi,(bO _ _).2 hlm,(bO _ _).2 hm6,k1];rfl
   .have:∀m,O (rep p.2.zero m)=m*p.2.size:=λm=>by
     rw[(ahG (F:=λ_=>A) (g:=mn) tU m).length,aac,yg,ku,oG]
    rw[vz];exact ⟨hlm,this m⟩
   .rw[vz,<-oG,ahH hlm];have:∀l,TR F sh (rep p.2.zero l) (Va l (mkT sh z p.2.zero)) []:=λl=>by
     induction l with
     |zero=>exact .nil
     |succ l ih=>rw[asj];exact .cons (a:= []) (b:= []) aim ih
    exact this l
  .cases h
 .cases h
def divL (op:Z6) (k:UQ) (m n:Int):G AV:=
 match op with
 | .rem=>V (.int k (m.tmod n))
 | .quo=>V (.int k (k.wrap (m.tdiv n)))
 |_=>A
def aBV (E:Env) (s:LS) (op:Op) (n:Nat) (ob:Prop->cF):G nU:=
 match op with
 | .binOp o _ a b _=>(match dR s.ts a,dR s.ts b with
  | .lit (.int k (.lit x)),.lit (.int k' (.lit y))=>aT (iV k k') (aA (divL o k x y) λz=>V ⟨[ob (y≠0)],s,z,[]⟩) A
  | .lit (.str x),.lit (.str y)=>(match o with
   | .add=>V ⟨[ob (x.size+y.size<=1000000)],s,.str (x++y),[]⟩
   |_=>A)
  |_,_=>A)
 | .index t a ix=>aA (E.ty.get t) λi=>(match dR s.ts a,dR s.ts ix with
  | .lit (.str b),.lit (.int _ (.lit m))=>aT (Jo i.desc) (V ⟨[ob ((CS b.data.toList m).map UInt8.toNat=V n)],s,.int .u8 (n:Int),[]⟩) A
  |_,_=>A)
 | .next it I=>(match dR s.ts it with
  | .it K=>(match lk K s.bs with
   |some (.iter b pos)=>aT (Cz n 0) (V ⟨[ob (¬pos<b.size)],s,.dh [.bool U],[]⟩) (V ⟨[ob (pos<b.size)],s.set K (.iter b (E' pos (Utf8.decode b pos).2)),.dh [.bool I,.int .i64 (pos:Int),.int .i32 (Utf8.decode b pos).1],[K]⟩)
   |_=>A)
  |_=>A)
 |_=>A
def aCq {k:UQ} {m n:Int} (hn:n≠0):pU P (binOp .rem t (.int k m) (.int k n))=V (.int k (m.tmod n)):=by
 have:binOp .rem t (.int k m) (.int k n)=Sem.pure (.int k (m.tmod n)):=by
  simp[binOp,Op.intDiv,hn,pure]
 rw[this];rfl
def aCr {k:UQ} {m n:Int} (hn:n≠0):pU P (binOp .quo t (.int k m) (.int k n))=V (.int k (k.wrap (m.tdiv n))):=by
 have:binOp .quo t (.int k m) (.int k n)=Sem.pure (.int k (k.wrap (m.tdiv n))):=by
  simp[binOp,Op.intDiv,hn,pure]
 rw[this];rfl
def aEB {a b:xN} (hn:a.size+b.size<=1000000):pU P (binOp .add t (.string a) (.string b))=V (.string (a++b)):=by
 have h1:¬(((a.size+b.size:Nat):Int)>IntKind.i64.max):=by
  have:IntKind.i64.max=9223372036854775807:=by decide
  omega
 have:binOp .add t (.string a) (.string b)=Sem.pure (.string (a++b)):=by
  show Op.stringOp .add a b=_;unfold Op.stringOp;simp only[];rw[au h1];rfl
 rw[this];rfl
def aiC (r:Rel F g Z c s T H) {b:xN} (ha:dR s.ts it= .it K) (hb:lk K s.bs=V (.iter b pos)):Z K= [((g K).n,.qR b pos)]/\∀new,vf E (.next it I) T H new=V (Jj (g K).n (b,pos)):=by
 let ⟨v,v1,v2⟩:=r.val ha am
 cases v2;let ⟨q,_,q3⟩:=r.bx K _ hb;generalize Z K=ae at q q3;cases q with
 |iter=>
 refine ⟨rfl,λnew=> ?_⟩
 show one T it (Fq H I)=_;rw[one,v1];show aA (Ql (H (g K).n)) (λp=>V (Jj (g K).n p))=_
 rw[(q3 ((g K).n,.qR b pos) am).1];rfl
def aJp {op:Op} {ob:Prop->cF} (gX:∀P,(ob P).need=P) {r:nU} (h:aBV E s op n ob=V r):sL E pn op s r:=by
 unfold aBV at h;split at h
 .rename_i o t a b t2;split at h
  .rename_i k x k' y ha hb;let ⟨hk,h⟩:=bf h;let ⟨z,hz,h⟩:=ak h;cases h;obtain rfl:=ahE hk;intro hh;have hn:=hh.1;rw[gX] at hn;exact .bi (f:=λv u=>same (Ta E _ _ _ _ v u)) (λ_ _ _=>rfl) ha am hb am λ{F g v w} hv hw=>by
    cases hv;cases hw;cases o<;>first|(cases hz;done)|skip
    .cases hz;refine ⟨.int k (.lit (k.wrap (x.tdiv y))),?_,.lit _⟩;show same (K7 (pU E.P (binOp .quo t (.int k x) (.int k y))))=_;rw[aCr hn];rfl
    .cases hz;refine ⟨.int k (.lit (x.tmod y)),?_,.lit _⟩;show same (K7 (pU E.P (binOp .rem t (.int k x) (.int k y))))=_;rw[aCq hn];rfl
  .rename_i x y ha hb;split at h
   .cases h;intro hh;have hn:=hh.1;rw[gX] at hn;exact .bi (f:=λv u=>same (Ta E _ _ _ _ v u)) (λ_ _ _=>rfl) ha am hb am λ{F g v w} hv hw=>by
     cases hv;cases hw;refine ⟨.str (x++y),?_,.lit _⟩;show same (K7 (pU E.P (binOp .add t (.string x) (.string y))))=_;rw[aEB hn];rfl
   .cases h
  .cases h
 .let ⟨i,hi,h⟩:=ak h;split at h
  .rename_i b _ m ha CO;let ⟨hd,h⟩:=bf h;cases h;intro hh;have hn:=hh.1;rw[gX] at hn;let ⟨cc,h1,h2⟩:=xb.1 hn;obtain ⟨j,rfl,h3⟩:=abh h1;exact .bi (f:=λv u=>aA (ph u) λk=>Bu E _ k v) (λ_ _ _=>rfl) ha am CO am λ{F g v w} hv hw=>by
    cases hv;cases hw;refine ⟨_,?_,.lit _⟩;show Bu E _ j (.str b)=_;unfold Bu;rw[fM hi];generalize i.desc=d at hd;cases d<;>first|(cases hd;done)|skip
    show aA (b.data.toList[j]?) (λb=>V (SV.int .u8 (.lit (.ofNat b.toNat)),([]:ia)))=_
    rw[fM h3,<-h2];rfl
  .cases h
 .split at h
  .rename_i K ha;split at h
   .rename_i b pos hb;rw[cx] at h;split at h
    .cases h;intro hh;have cT:=hh.1;rw[gX] at cT;refine .val λ{F g Z c T H} r=>⟨.dh [.bool U],λnew=> ?_,.dh (.cons (.lit _) .nil)⟩
     rw[(aiC r ha hb).2];have hx:D' (S6 pos) b.size=U:=by
      cases hx:D' (S6 pos) b.size with
      |false=>rfl
      |true=>exact absurd ((bO _ _).1 hx) cT
     show V (aT (D' (S6 pos) b.size) _ _)=_;rw[hx]
    .cases h;intro hh;have cT:=hh.1;rw[gX] at cT;refine .wr hb λ{F g Z c T H} r=> ?_
     let ⟨hφ,go⟩:=aiC (E:=E) r ha hb;refine ⟨.dh [.bool I,xC pos,.int .i32 (.lit (Utf8.decode b pos).1)],_,.qR b (pos+(Utf8.decode b pos).2),[],[],hφ,λnew=> ?_,.dh (.cons (.lit _) (.cons (.lit _) (.cons (.lit _) .nil))),.iter,.refl _⟩
     rw[go];show V (aT (D' (S6 pos) b.size) _ _)=_;rw[(bO _ _).2 cT];rfl
   .cases h
  .cases h
 .cases h
def abN {mx:G S'} {c2 c3:Nat} {ie:TI} (sD:E.ty.get t=V i) (hd:px i.desc=V e) (he:E.ty.get e=V ie) (hv:dy T a=V v) (h2:kF T hi=V (V c2)) (h3:kF T mx=V (V c3)):
  vf E (.slice t a A hi mx) T H new=same (Fc v E e A (V c2) (V c3)):=by
 show one T a (λv=>uQ (kF T A) (kF T hi) (kF T mx) λl u m=>same (zx E t v l u m))=_
 unfold one;rw[hv,h2,h3];show same (zx E t v A (V c2) (V c3))=_;unfold zx;rw[sD];show same (ahu i.desc E v A (V c2) (V c3))=_;rw[sP hd];show same (aA (E.ty.get e) λ_=>Fc v E e A (V c2) (V c3))=_
 rw[he];rfl
def CutF (Q:bB) (hi mx:Int) (R:bB) (n:Nat):Prop:=∃u:Nat,hi=(u:Int)/\mx=(u:Int)/\u<=O Q/\Q.take u=R/\O R=n
def atz (E:Env) (s:LS) (op:Op) (R:bB) (n':Nat) (ob:Prop->cF):G nU:=
 match op with
 | .slice t a A (V hi) (V mx)=>aA (Ea E t) λp=>cq (UY s.ts (V hi)) (UY s.ts (V mx)) λb1 b2=>(match dR s.ts a with
  | .sl m e sz n Q=>aT (!Cz m 2&&(b1.isSome&&(b2.isSome&&(Cz e p.1&&Cz sz p.2.size)))) (V ⟨[ob (CutF Q (b1.getD 0) (b2.getD 0) R n')],s,.sl 3 e sz n' R,[]⟩) A
  |_=>A)
 |_=>A
def aAJ (r:Rel F g Z c s T H) {b:G Int} (hb:UY s.ts (V x)=V b) (hn:b.getD 0=(n:Int)):kF T (V x)=V (V n):=by
 have hb:(match dR s.ts x with| .lit (.int _ (.lit n))=>V (V n)|_=>A)=V b:=hb
 split at hb
 .rename_i k m hv;cases hb;obtain rfl:m=(n:Int):=hn;let ⟨v,v1,v2⟩:=r.val hv am
  cases v2;show aA (dy T x) (λv=>aA (ph v) λn=>V (V n))=_
  rw[v1];rfl
 .cases hb
def aEx {op:Op} {R:bB} {ob:Prop->cF} (gX:∀P,(ob P).need=P) {r:nU} (h:atz E s op R n' ob=V r):sL E pn op s r:=by
 unfold atz at h;split at h
 .rename_i t a hi mx;obtain ⟨p,hp,h⟩:=ak h;obtain ⟨b1,b2,h1,h2,h⟩:=bV h;obtain ⟨i,sD,he,pi⟩:=sG hp;split at h
  .rename_i m e sz n Q ha;obtain ⟨h3,h⟩:=bf h;cases h;simp only[bI] at h3;obtain ⟨h3,_,_,h4,h5⟩:=h3;obtain rfl:=(f9 _ _).1 h4;obtain rfl:=(f9 _ _).1 h5;have h3:m≠2:=λe=>by rw[(f9 _ _).2 e] at h3;cases h3
   intro hh;have hc:=hh.1;rw[gX] at hc;obtain ⟨u,c1,c2,c3,rfl,rfl⟩:=hc;refine .val λ{F g Z c T H} r=> ?_
   obtain ⟨v,v1,v2⟩:=r.val ha am
   have k1:=aAJ r h1 c1;have k2:=aAJ r h2 c2;have li:O (Q.take u)=u:=by rw[dv];omega
   rw[li];cases v2 with
   |nil=>
    obtain rfl:u=0:=Es.1 c3;refine ⟨.bY,λnew=> ?_,.nil _ _ _⟩
    rw[abN sD he pi v1 k1 k2];rfl
   |sle=>exact absurd rfl h3
   | @sl _ _ id off cp _ _ _ _ e2 svs hn hF hct _ hu hl q=>
    subst hn;have lm:=jv p.2.size c3;refine ⟨.sl id off u (.k u),λnew=> ?_,.sl li (xq hF (cM _) W) (cM u) ⟨λh=>(by cases h),λ_=>rfl⟩ (λr hr=>hu r (oB hr)) W ?_⟩
    .rw[abN sD he pi v1 k1 k2];show same (xe E p.1 id off (O Q) cp A (V u) (V u))=_;unfold xe;rw[fM pi];have e1:(I2 cp p.1&&(D' 0 u&&(D' u (reach cp (O Q))&&Qe (V u) u (reach cp (O Q)))))=I:=by
      have e0:Qe (V u) u (reach cp (O Q))=(D' u u&&D' u (reach cp (O Q))):=rfl;rw[e0,(bO _ _).2 (rY u),(bO _ _).2 (cM u)];cases cp with
      |k m=>rw[show D' u (reach (.k m) (O Q))=I from (bO _ _).2 (lO c3 hct)];rfl
      |u e'=>rw[show D' u (reach (.u e') (O Q))=I from (bO _ _).2 c3,show I2 (.u e') p.1=I from (f9 _ _).2 hct];rfl
     show same (aT _ (V (BE id off 0 u p.2.size (.k u))) A)=_;rw[show (I2 cp p.1&&(D' ((A:cC).getD 0) ((V u).getD (O Q))&&(D' ((V u).getD (O Q)) (reach cp (O Q))&&Qe (V u) ((V u).getD (O Q)) (reach cp (O Q)))))=I from e1];rfl
    .have:=q.take (u*p.2.size);rw[mC,fG lm] at this;have e3:=Hh hu u;rw[e3];exact this
  .cases h
 .cases h
def aII (E:Env) (pn:Nat->Bool) (s:LS) (d:cC) (op:Op) (R Q':bB) (n':Nat) (ob:Prop->cF):G nU:=
 aA d λK=>aA (Yv .append op) λq=>cq (Ea E q.2.1) (E.ty.get q.2.2) λp i2=>(match dR s.ts q.1.1 with
  | .sl m e sz n Q=>aA (Z5 s p.2.size [] (dR s.ts q.1.2) (λR=>GG U Q n Q' n' R/\R≠ []) R ob) λsc=>
   aT ((nv p.2&&Bn i2.desc)&&((Cz m 3&&(Cz sz p.2.size&&Cz e p.1))&&(!pn K&&Hg s K)))
    (V ⟨sc.CB,s.set K (.bG I e sz [] Q' []),.ms K sz 0 n',[K]⟩) A
  |_=>A)
def aEJ {op:Op} {R Q':bB} {ob:Prop->cF} (gX:∀P,(ob P).need=P) {r:nU} (h:aII E pn s d op R Q' n' ob=V r):sL E pn op s r:=by
 let ⟨K,hd,h⟩:=ak h;let ⟨⟨⟨a,y⟩,t1,t2⟩,h1,h0⟩:=ak h;clear h;obtain ⟨cl,rfl,rl,CQ,hc3⟩:=GL h1;let ⟨p,i2,h2,h3,h⟩:=bV h0;clear h0;dsimp only at h;split at h
 .rename_i m e sz n Q ha;let ⟨sc,h5,h⟩:=ak h;let ⟨h6,h⟩:=bf h;cases h;simp only[bI] at h6;let ⟨⟨k1,k2⟩,⟨k3,k4,k5⟩,k6,k7⟩:=h6;intro hh;let ⟨⟨hA,hR0⟩,hS⟩:=P3 gX h5 hh;obtain rfl:=(f9 _ _).1 k3;obtain rfl:=(f9 _ _).1 k4;obtain rfl:=(f9 _ _).1 k5;let ⟨i,hi,he,pi⟩:=sG h2;rw[<-hA.len,<-hA.eq];refine .box λ{F g Z c T H new} r hn=> ?_
  let ⟨v,v1,v2⟩:=r.val ha am
  let ⟨x,w1,w2⟩:=r.val rfl hS.1;let ⟨xs,x1,x2,x3,_⟩:=hS.2 r w2;have hm0:Cz (O sc.R) 0=U:=by
   cases hx:Cz (O sc.R) 0 with
   |false=>rfl
   |true=>exact absurd (qg.1 ((f9 _ _).1 hx)) hR0
  have dq:O xs=O sc.R*p.2.size:=x2.length x3;have go:∀old:bj,O Q=n->O old=n*p.2.size->TR F [] old Q []->(∀r∈Q,O r=p.2.size)->sK v H new p.1 p.2.size (O sc.R) xs=V (.sl new 0 (E' n (O sc.R)) (.u p.1),[(new,V (.cells p.1 (old++xs)))])->
    ∃v' us gk L',vf E (.call cl) T H new=V (v',us)/\VA F (j4 g K gk) v' (.ms K p.2.size 0 (O (Q.take n++sc.R)))/\fg F (j4 g K gk) K (.bG I p.1 p.2.size [] (Q.take n++sc.R) []) L'/\(L'.map (·.1)).Nodup/\(∀p∈L',iH H us p.1=V p.2/\(c p.1=V K\/H p.1=A))/\(∀u∈us,u.1=new\/c u.1=V K)/\(gk=g K\/(pn K=U/\s.free K))/\(iH H us new=A\/new∈L'.map (·.1)):=λold hl ho hq hu Lu=>by
   subst hl;have eg:j4 g K ⟨new,.u p.1,I⟩ K=⟨new,.u p.1,I⟩:=ax rfl;have li:O (Q.take (O Q)++sc.R)=E' (O Q) (O sc.R):=by rw[nj,gS];rfl
   have z6:O (old++xs)=O (Q.take (O Q)++sc.R)*p.2.size:=by rw[gS,ho,dq,li];show _=(O Q+O sc.R)*_;rw[gz]
   refine ⟨_,[(new,V (.cells p.1 (old++xs)))],⟨new,.u p.1,I⟩,[(new,.cells p.1 (old++xs))],?_,by rw[li];exact sw eg,?_,am,λq hq=> ?_,λu hu=>.inl (by rw[gy.1 hu]),.inr ⟨by simpa using k6,yG k7⟩,.inr am⟩
   .show qj E T H new cl=_;unfold qj;rw[rl];show aA (gN T cl.args.toList) (λaa=>oF E H new .append aa cl.argTypes.toList)=_
    rw[CQ,hc3];have e1:gN T [a,y]=V [v,x]:=by
     show cq (dy T a) (cq (dy T y) (V []) λv l=>V (v::l)) (λv l=>V (v::l))=_
     rw[v1,w1];rfl
    rw[e1];show aA (E.ty.get t2) (λi=>aT (Bn i.desc) (nD E H new t1 v x) A)=_
    rw[fM h3,k2];show nD E H new t1 v x=_;rw[aih hi he pi k1 x1 hA.r6,hm0];exact Lu
   .have:=fg.bG (F:=F) (g:=j4 g K ⟨new,.u p.1,I⟩) (K:=K) (z:=I) (e:=p.1) (s:=p.2.size) (l:= []) (Q:=Q.take (O Q)++sc.R) (o:= []) (svs:=old++xs) (ae:= []) (by rw[eg]) (λ_ hc=>hR0 (anM.1 hc).2) (λx hx=>by rw[nj] at hx;exact (fk.1 hx).elim (hu x) (x3 x)) (by rw[eg];exact ⟨rfl,by rw[z6];exact cM _⟩) (by rw[<-z6,nj,nj];simpa using hq.append x2) (λp hp=>by cases hp)
    rwa[eg] at this
   .obtain rfl:=gy.1 hq;exact ⟨show (if new=new then _ else _)=_ from ax rfl,.inr hn⟩
  cases v2 with
  |nil=>exact go [] rfl am .nil (λr hr=>by cases hr) (by rw[show E' 0 (O sc.R)=O sc.R from cN _];rfl)
  | @sl _ _ id off cp _ _ _ _ e2 svs hnl hF hct hm hu hl q=>
   obtain rfl:=hm.2 rfl;refine go ((svs.drop off).take (n*p.2.size)) hnl (by rw[dv,iz];omega) (.tQ hu q) hu ?_
   show HA H new p.1 p.2.size (O sc.R) xs id off n (.k n)=_;unfold HA;rw[(bO _ _).2 hA.n6];have e1:adF n (O sc.R) (.k n)=I:=(bO _ _).2 (by
    have:O sc.R≠0:=λh=>hR0 (qg.1 h)
    show n+1<=n+O sc.R;omega)
   rw[e1];have e2:lx H id off (N' n p.2.size)=V ((svs.drop off).take (n*p.2.size)):=by
    unfold lx;rw[show jD (H id) off (N' n p.2.size)=V (_,svs) from xX (λi o h=>(r.fr i o h).1) hF]
    show aT (D' (E' off (N' n p.2.size)) (O svs)) (V ((svs.drop off).take (n*p.2.size))) A=_;rw[show D' (E' off (N' n p.2.size)) (O svs)=I from (bO _ _).2 hl]
   show aT I (aT I (aA (lx H id off (N' n p.2.size)) _) _) A=_;rw[fM e2];rfl
 .cases h
def aBd (E:Env) (s:LS) (op:Op) (R:bB) (ob:Prop->cF):G nU:=
 aA (Yv .append op) λq=>cq (Ea E q.2.1) (E.ty.get q.2.2) λp i2=>(match dR s.ts q.1.1 with
  | .sl m e sz n Q=>aA (Z5 s p.2.size [] (dR s.ts q.1.2) (λR=>R= []) R ob) λsc=>aT ((nv p.2&&Bn i2.desc)&&Cz m 3) (V ⟨sc.CB,s,.sl m e sz n Q,[]⟩) A
  |_=>A)
def aBc {op:Op} {R:bB} {ob:Prop->cF} (gX:∀P,(ob P).need=P) {r:nU} (h:aBd E s op R ob=V r):sL E pn op s r:=by
 let ⟨⟨⟨a,y⟩,t1,t2⟩,h1,h0⟩:=ak h;clear h;obtain ⟨cl,rfl,rl,CQ,hc3⟩:=GL h1;let ⟨p,i2,h2,h3,h⟩:=bV h0;clear h0;dsimp only at h;split at h
 .rename_i m e sz n Q ha;let ⟨sc,h5,h⟩:=ak h;let ⟨h6,h⟩:=bf h;cases h;simp only[bI] at h6;let ⟨⟨k1,k2⟩,k3⟩:=h6;intro hh;let ⟨hR0,hS⟩:=P3 gX h5 hh;let ⟨i,hi,he,pi⟩:=sG h2;obtain rfl:=(f9 _ _).1 k3;refine .val λ{F g Z c T H} r=> ?_
  let ⟨v,v1,v2⟩:=r.val ha am
  let ⟨x,w1,w2⟩:=r.val rfl hS.1;let ⟨xs,x1,_⟩:=hS.2 r w2;refine ⟨v,λnew=> ?_,v2⟩
  show qj E T H new cl=_;unfold qj;rw[rl];show aA (gN T cl.args.toList) (λaa=>oF E H new .append aa cl.argTypes.toList)=_
  rw[CQ,hc3];have e1:gN T [a,y]=V [v,x]:=by
   show cq (dy T a) (cq (dy T y) (V []) λv l=>V (v::l)) (λv l=>V (v::l))=_
   rw[v1,w1];rfl
  rw[e1];show aA (E.ty.get t2) (λi=>aT (Bn i.desc) (nD E H new t1 v x) A)=_
  rw[fM h3,k2];show nD E H new t1 v x=_;rw[aih hi he pi k1 x1 (by rw[hR0];exact rY _),hR0]
  cases v2<;>rfl
 .cases h
end
section
variable {F F':Hf} {g g':Gb} {Z:Nat->Ow} {c:Nat->cC} {s s':LS} {T:Tf} {H:Hf} {E:Env} {pn:Nat->Bool}
def U5:AV->AV->G Bool
 | .lit (.str a),.lit (.str b)=>V (A' (a=b))
 | .lit (.bool a),.lit (.bool b)=>V (a==b)
 | .lit (.int k (.lit a)),.lit (.int k' (.lit b))=>aT (iV k k') (V (A' (a=b))) A
 |_,_=>A
def S0:AV->UD->Bool
 | .lit (.str _),d=>Jo d
 | .lit (.bool _),d=>Qm d
 | .lit (.int k (.lit _)),d=>Ya k d
 |_,_=>U
def uN (k:AV):List (AV×AV)->G (G (Nat×AV))
 | []=>V A
 |e::es=>
  match U5 k e.1 with
  |some I=>V (V (0,e.2))
  |some U=>(match uN k es with|some (V p)=>V (V (p.1+1,p.2))|r=>r)
  |none=>A
def afQ {k x:AV} {b:Bool} (hu:VA F g u k) (hv:VA F g' v x) (hb:U5 k x=V b):sameKey u v=V b/\(b=I->k=x):=by
 unfold U5 at hb;split at hb
 .cases hb;cases hu;cases hv;exact ⟨by show V (HU _ _)=_;rw[yY],λh=>by simp at h;rw[h]⟩
 .cases hb;cases hu;cases hv;exact ⟨rfl,λh=>by simp at h;rw[h]⟩
 .let ⟨hk,hb⟩:=bf hb;cases hb;cases hu;cases hv;exact ⟨by show aT (iV _ _) (V (Lm _ _)) A=_;rw[hk,EJ],λh=>by simp at h;rw[h,ahE hk]⟩
 .cases hb
def apC {k:AV} {d:UD} (hu:VA F g u k) (hd:S0 k d=I):NN u d=I/\(kU k).isEmpty=I:=by
 unfold S0 at hd;split at hd
 .cases hu;exact ⟨hd,rfl⟩
 .cases hu;exact ⟨hd,rfl⟩
 .cases hu;exact ⟨(show (I&&Ya _ d)=I by rw[jj];exact hd),rfl⟩
 .cases hd
def aaM {k:AV} {u:SV} (hu:VA F g u k):∀{es:List (AV×AV)} {ms:iU} (j:Nat),dS F mn (ms.map (·.1)) (es.map (·.1))->dS F mn (ms.map (·.2.1)) (es.map (·.2))->
  (uN k es=V A->sE u ms j=V A)/\∀i x,uN k es=V (V (i,x))->∃v c,sE u ms j=V (V (j+i,v,c))/\VA F mn v x/\es[i]? =V (k,x)/\i<O ms/\(ms.map (·.2.2))[i]? =V c
 | [],[],j,_,_=>⟨λ_=>rfl,λi x h=>by cases h⟩
 | [],m::ms,j,h,_=>by cases h
 |e::es,[],j,h,_=>by cases h
 |e::es,m::ms,j,h1,h2=>by
  cases h1 with|cons a1 t1=>
  cases h2 with|cons a2 t2=>
  let ⟨i1,i2⟩:=aaM hu (es:=es) (ms:=ms) (E' j 1) t1 t2;constructor
  .intro hf;unfold uN at hf;unfold sE;split at hf
   .cases hf
   .rename_i hk;rw[(afQ hu a1 hk).1];show sE u ms (E' j 1)=_;split at hf
    .cases hf
    .exact i1 hf
   .cases hf
  .intro i x hf;unfold uN at hf;unfold sE;split at hf
   .rename_i hk;cases hf;let ⟨q1,q2⟩:=afQ hu a1 hk;rw[q1];exact ⟨m.2.1,m.2.2,rfl,a2,by rw[q2 rfl];rfl,am,am⟩
   .rename_i hk;rw[(afQ hu a1 hk).1];show ∃v c,sE u ms (E' j 1)=_/\_;split at hf
    .rename_i p hp;cases hf;let ⟨v,c,b1,b2,b3,b4,b5⟩:=i2 p.1 p.2 hp;refine ⟨v,c,?_,b2,by simpa using b3,by simpa using b4,by simpa using b5⟩
     rw[b1,show E' j 1+p.1=j+(p.1+1) from by show j+1+p.1=_;omega]
    .rename_i dd;exact absurd hf (dd _)
   .cases hf
def BM.snoc {c:Nat} (h:BM ms c):BM (ms++ [(w,u,c)]) (c+1):=by
 refine ⟨λn hn=> ?_,?_⟩
 .rw[ky] at hn;rcases fk.1 hn with hn|hn
  .have:=h.1 n hn;omega
  .have:n=c:=by simpa using hn
   omega
 .rw[ky];exact Cf.2 ⟨h.2,am,λa ha b hb e=>by
   have hb:b=c:=by simpa using hb
   have:=h.1 a ha;omega⟩
def BM.set {c i:Nat} (h:BM ms c) (hk:(ms.map (·.2.2))[i]? =V k):BM (ms.set i (w,u,k)) c:=by
 have e:(ms.set i (w,u,k)).map (·.2.2)=ms.map (·.2.2):=by
  rw[ET];let ⟨h1,h2⟩:=bk.1 hk;rw[show (w,u,k).2.2=(ms.map (·.2.2))[i] from h2.symm]
  exact IB h1
 unfold BM;rw[e];exact h
def tT (E:Env) (t:Ey):G (TI×TI):=aA (E.ty.get t) λi=>aA (H5 i.desc) λq=>cq (E.ty.get q.1) (E.ty.get q.2) λa b=>V (a,b)
def aca {p:TI×TI} (h:tT E t=V p):∃i q,E.ty.get t=V i/\H5 i.desc=V q/\E.ty.get q.1=V p.1/\E.ty.get q.2=V p.2:=by
 let ⟨i,hi,h⟩:=ak h;let ⟨q,hq,h⟩:=ak h;let ⟨a,b,h1,h2,h⟩:=bV h;cases h;exact ⟨i,q,hi,hq,h1,h2⟩
def ayD {ok b:Bool} {x:AV} (h:VA F g v x):VA F g (MP ok v b) (okM ok x b):=by
 cases ok
 .exact h
 .exact .dh (.cons h (.cons (.lit _) .nil))
def Vf (ok:Bool) (z:G AV):G (Nat×AV)->G AV
 |some r=>V (okM ok r.2 I)
 |none=>aA z λz=>V (okM ok z U)
def Sd (es:List (AV×AV)) (k v:AV):G (Nat×AV)->List (AV×AV)
 |some r=>es.set r.1 (k,v)
 |none=>es++ [(k,v)]
def dS.aCk:∀{vs xs} {i:Nat} {v:SV} {x:AV},dS F g vs xs->VA F g v x->dS F g (vs.set i v) (xs.set i x)
 |_,_,_,_,_,.nil,_=>.nil
 |_,_,0,_,_,.cons _ t,k=>.cons k t
 |_,_,i+1,_,_,.cons h t,k=>.cons h (t.aCk k)
def Rel.map (r:Rel F g Z c s T H) {K:Nat} {es:List (AV×AV)} (hb:lk K s.bs=V (.map es)):∃ms cl,Z K= [((g K).n,.map ms cl)]/\H (g K).n=V (.map ms cl)/\dS F mn (ms.map (·.1)) (es.map (·.1))/\dS F mn (ms.map (·.2.1)) (es.map (·.2))/\BM ms cl:=by
 let ⟨q,_,q3⟩:=r.bx K _ hb;generalize Z K=ae at q q3;cases q with
 | @map _ ms cl hk hv hw=>exact ⟨ms,cl,rfl,(q3 ((g K).n,.map ms cl) am).1,hk,hv,hw⟩
def aCH (E:Env) (s:LS) (op:Op) (x:AV) (MW:List (AV×AV)) (ob:Prop->cF):G nU:=
 match op with
 | .lookup t a c ok=>aA (tT E t) λp=>(match dR s.ts a with
  | .mp K=>(match lk K s.bs with
   |some (.map es)=>aT (S0 (dR s.ts c) p.1.desc&&(kU x).isEmpty) (V ⟨[ob (∃f,uN (dR s.ts c) es=V f/\Vf ok (vT p.2 (yg p.2.zero) 0) f=V x)],s,x,[]⟩) A
   |_=>A)
  |_=>A)
 | .mapUpdate t a c d=>aA (tT E t) λp=>(match dR s.ts a with
  | .mp K=>(match lk K s.bs with
   |some (.map es)=>aT (S0 (dR s.ts c) p.1.desc) (aA (Fs (dR s.ts d)) λx'=>aT (kU x').isEmpty (V ⟨[ob (∃f,uN (dR s.ts c) es=V f/\Sd es (dR s.ts c) x' f=MW)],s.set K (.map MW),.dh [],[K]⟩) A) A
   |_=>A)
  |_=>A)
 |_=>A
def apD {k:AV} {d:UD} (h:S0 k d=I):k≠ .undef:=λe=>by rw[e] at h;cases h
def aKm {op:Op} {x:AV} {MW:List (AV×AV)} {ob:Prop->cF} (gX:∀P,(ob P).need=P) {r:nU} (h:aCH E s op x MW ob=V r):sL E pn op s r:=by
 unfold aCH at h;split at h
 .rename_i t a k ok;obtain ⟨p,hp,h⟩:=ak h;split at h
  .rename_i K ha;split at h
   .rename_i es hb;obtain ⟨h1,h⟩:=bf h;cases h;rw[bI] at h1;intro hh;have hf:=hh.1;rw[gX] at hf;obtain ⟨f,hf,hx⟩:=hf;obtain ⟨i,q,hi,hq,e1,e2⟩:=aca hp;refine .val λ{F g Z c T H} r=> ?_
    obtain ⟨v,v1,v2⟩:=r.val ha am
    obtain ⟨w,w1,w2⟩:=r.val rfl (apD h1.1);cases v2;obtain ⟨ms,cl,_,hH,CN,zd,_⟩:=r.map hb;obtain ⟨m1,m2⟩:=aaM w2 0 CN zd;have key:∃r,sE w ms 0=V r/\∃u,Oj ok (jr p.2 p.2.zero 0) r=V u/\VA F g u x:=by
     cases f with
     |none=>
      obtain ⟨z,hz,hx⟩:=ak hx;cases hx;obtain ⟨u,u1,u2⟩:=xj (tU (F:=F) (g:=mn) (vs:=p.2.zero)) hz;exact ⟨A,m1 hf,MP ok u U,by show aA (jr p.2 p.2.zero 0) (λz=>V (MP ok z U))=_;rw[u1];rfl,(ayD u2).tR h1.2⟩
     |some r=>
      cases hx;obtain ⟨v,c,b1,b2,_⟩:=m2 r.1 r.2 hf;exact ⟨_,b1,MP ok v I,rfl,(ayD b2).tR h1.2⟩
    obtain ⟨r',k1,u,u1,u2⟩:=key;refine ⟨u,λnew=> ?_,u2⟩
    show two T a k (λa b=>same (xl E H t a b ok))=_
    rw[two,v1,w1];show same (xl E H t (.mp (g K).n) w ok)=_;unfold xl;rw[fM hi,fM hq,F7 e1 e2,(apC w2 h1.1).1];show same (aA (aA (ln (H (g K).n)) λp=>V p.1) λes=>aA (sE w es 0) λr=>Oj ok (jr p.2 p.2.zero 0) r)=_
    rw[hH];show same (aA (sE w ms 0) λr=>Oj ok (jr p.2 p.2.zero 0) r)=_
    rw[k1];show same (Oj ok (jr p.2 p.2.zero 0) r')=_;rw[u1];rfl
   .cases h
  .cases h
 .rename_i t a k d;obtain ⟨p,hp,h⟩:=ak h;split at h
  .rename_i K ha;split at h
   .rename_i es hb;obtain ⟨h1,h⟩:=bf h;obtain ⟨x',h2,h⟩:=ak h;obtain ⟨rfl,dd⟩:=oX h2;obtain ⟨h3,h⟩:=bf h;cases h;intro hh;have hf:=hh.1;rw[gX] at hf;obtain ⟨f,hf,rfl⟩:=hf;obtain ⟨i,q,hi,hq,e1,e2⟩:=aca hp;refine .wr hb λ{F g Z c T H} r=> ?_
    obtain ⟨v,v1,v2⟩:=r.val ha am
    obtain ⟨w,w1,w2⟩:=r.val rfl (apD h1);obtain ⟨u,u1,u2⟩:=r.val rfl dd;cases v2;obtain ⟨ms,cl,hφ,hH,CN,zd,hw⟩:=r.map hb;obtain ⟨hlk,Jt⟩:=apC w2 h1;obtain ⟨m1,m2⟩:=aaM w2 0 CN zd;have key:∃r,sE w ms 0=V r/\∃GW cl',SZ ms cl w u r= .map GW cl'/\dS F mn (GW.map (·.1)) ((Sd es (dR s.ts k) (dR s.ts d) f).map (·.1))/\dS F mn (GW.map (·.2.1)) ((Sd es (dR s.ts k) (dR s.ts d) f).map (·.2))/\BM GW cl':=by
     cases f with
     |none=>
      refine ⟨A,m1 hf,ms++ [(w,u,cl)],E' cl 1,rfl,?_,?_,hw.snoc⟩
      .show dS F mn ((ms++ [(w,u,cl)]).map (·.1)) ((es++ [(dR s.ts k,dR s.ts d)]).map (·.1))
       rw[ky,ky];exact CN.append (.cons (w2.tR Jt) .nil)
      .show dS F mn ((ms++ [(w,u,cl)]).map (·.2.1)) ((es++ [(dR s.ts k,dR s.ts d)]).map (·.2))
       rw[ky,ky];exact zd.append (.cons (u2.tR h3) .nil)
     |some r=>
      obtain ⟨v,c,b1,b2,b3,b4,b5⟩:=m2 r.1 r.2 hf;refine ⟨_,b1,ms.set (0+r.1) (w,u,c),cl,rfl,?_,?_,hw.set (by rw[cN];exact b5)⟩
      .show dS F mn ((ms.set (0+r.1) (w,u,c)).map (·.1)) ((es.set r.1 (dR s.ts k,dR s.ts d)).map (·.1))
       rw[ET,ET,cN];exact CN.aCk (w2.tR Jt)
      .show dS F mn ((ms.set (0+r.1) (w,u,c)).map (·.2.1)) ((es.set r.1 (dR s.ts k,dR s.ts d)).map (·.2))
       rw[ET,ET,cN];exact zd.aCk (u2.tR h3)
    obtain ⟨r',k1,GW,cl',k2,k3,k4,k5⟩:=key;refine ⟨.dh [],_,.map GW cl',[],[],hφ,λnew=> ?_,.dh .nil,.map k3 k4 k5,.refl _⟩
    show two T a k (λa b=>one T d λc=>unit (Dc E H t a b c))=_
    unfold two one;rw[v1,w1];show aA (dy T d) (λc=>unit (Dc E H t (.mp (g K).n) w c))=_
    rw[u1];show unit (Dc E H t (.mp (g K).n) w u)=_;have e1:Dc E H t (.mp (g K).n) w u=V [((g K).n,V (.map GW cl'))]:=by
     show aA (E.ty.get t) (λi=>aA (H5 i.desc) λq=>cq (E.ty.get q.1) (ln (H (g K).n)) λik p=>aT (NN w ik.desc) (aA (sE w p.1 0) λr=>V [((g K).n,V (SZ p.1 p.2 w u r))]) A)=_
     rw[fM hi,fM hq,hH,F7 e1 (show ln (V (SO.map ms cl))=V (ms,cl) from rfl),hlk];show aA (sE w ms 0) (λr=>V [((g K).n,V (SZ ms cl w u r))])=_
     rw[k1];show V [((g K).n,V (SZ ms cl w u r'))]=_;rw[k2]
    rw[e1];rfl
   .cases h
  .cases h
 .cases h
inductive Pl where
 |row (R:bg) (fs:bQ)
 |nat (k:Nat)
 |uj (Q:bB)
 |app (w:Bool) (R Q:bB) (n:Nat)
 |Nn
 |cut (l u:Nat) (R:bB) (n:Nat)
 |mk (z:bg) (Q:bB) (l:Nat) (sh:eG)
 |val (n:Nat)
 |lkp (x:AV) (es:List (AV×AV))
 |eqv (y:AV)
 |laid (b:Bx)
 |Hm (R Q:bB) (m:Nat)
 |aEt (R:bB) (n:Nat)
 |YA (R Q:bB) (n:Nat)
 |auh (R:bB)
def Uc (E:Env) (pn:Nat->Bool) (s:LS) (d:cC) (op:Op):G nU:=
 (UF E s op).elim ((UE E s op).elim ((Ym E s op).elim (aA d λK=>aT (!pn K&&Hg s K) (aA (ahU E s K op) λp=>V ⟨[],s.set K p.1,p.2,[K]⟩) A) V) λp=>V ⟨[],s.set p.1 p.2,.dh [],[p.1]⟩) λx=>V ⟨[],s,x,[]⟩
def afI {op:Op} {r:nU} (h:Uc E pn s d op=V r):sL E pn op s r:=by
 unfold Uc at h;cases h1:UF E s op with
 |some x=>rw[h1] at h;cases h;exact λ_=>ayk h1
 |none=>
  rw[h1] at h;cases h2:UE E s op with
  |some x=>rw[h2] at h;cases h;exact λ_=>ayi h2
  |none=>
   rw[h2] at h;cases h3:Ym E s op with
   |some x=>rw[h3] at h;cases h;exact aKA h3
   |none=>
    rw[h3] at h;let ⟨K,_,h⟩:=ak h;let ⟨h4,h⟩:=bf h;let ⟨p,h5,h⟩:=ak h;cases h;rw[bI] at h4;exact λ_=>ayj (yG h4.2) (by simpa using h4.1) h5
def arG (E:Env) (pn:Nat->Bool) (s:LS) (d:cC) (op:Op) (pl:Pl) (ob:Prop->cF):G nU:=
 match pl with
 | .row R fs=>aCo E s op R fs ob
 | .nat k=>aCZ E s op k ob
 | .uj Q=>aCb E s op Q ob
 | .app w R Q n=>appI E pn s d op w R Q n ob
 | .Nn=>tapI E pn s d op ob
 | .cut l u R n=>aEw E s op l u R n ob
 | .mk z Q l sh=>mkI E pn s d op z Q l sh ob
 | .val n=>aBV E s op n ob
 | .lkp x es=>aCH E s op x es ob
 | .Hm R Q m=>cpyI E s op R Q m ob
 | .aEt R n=>atz E s op R n ob
 | .YA R Q n=>aII E pn s d op R Q n ob
 | .auh R=>aBd E s op R ob
 | .eqv y=>aA (Uc E pn s d op) λr=>V ⟨ob (r.x=y)::r.CB,r.s,y,r.ac⟩
 | .laid b=>cq d (Uc E pn s d op) λK r=>V ⟨ob (lk K r.s.bs=V b)::r.CB,r.s.set K b,r.x,r.ac⟩
def afS {op:Op} {pl:Pl} {ob:Prop->cF} (gX:∀P,(ob P).need=P) {r:nU} (h:arG E pn s d op pl ob=V r):sL E pn op s r:=by
 cases pl with
 |row=>exact aJX gX h
 |nat=>exact aKz gX h
 |uj=>exact aJs gX h
 |app=>exact aKX gX h
 |Nn=>exact aJr gX h
 |cut=>exact aKF gX h
 |mk=>exact aMC gX h
 |val=>exact aJp gX h
 |lkp=>exact aKm gX h
 |Hm=>exact aKI gX h
 |aEt=>exact aEx gX h
 |YA=>exact aEJ gX h
 |auh=>exact aBc gX h
 |eqv y=>
  let ⟨r0,h1,h⟩:=ak h;cases h;intro ho;let ⟨o1,o2⟩:=ho;rw[gX] at o1;subst o1;exact (show Ok E pn op s r0.s r0.x r0.ac from afI h1 o2)
 |laid b=>
  let ⟨K,r0,_,h1,h⟩:=bV h;cases h;intro ho;let ⟨o1,o2⟩:=ho;rw[gX] at o1;have h2:=afI h1 o2;refine ⟨λ{F g Z c T H new} r hn=> ?_⟩
  let ⟨v,us,g',φ',c',a1,a2,a3,a4⟩:=h2.go r hn;refine ⟨v,us,g',φ',c',a1,a2,a3.sub (λ_ _ h=>h) λk b' hb=> ?_,a4⟩
  rw[show (r0.s.set K b).bs=(K,b)::r0.s.bs from rfl,dH] at hb;split at hb
  .rename_i e;rw[e,o1];exact hb
  .exact hb
end
section
variable {F F':Hf} {g g':Gb} {Z:Nat->Ow} {c:Nat->cC} {s s':LS} {T:Tf} {H:Hf} {E:Env} {pn:Nat->Bool}
variable {K2:Nat}
mutual
def Ie (K:Nat) (D:Nat->Nat->AV) (ae:Nat->Nat->AV):AV->AV
 | .agg cs=>.agg (He K D ae cs)
 | .dh cs=>.dh (He K D ae cs)
 | .fn f a b=>.fn f (He K D ae a) (He K D ae b)
 | .kN t x=>.kN t (Ie K D ae x)
 | .ms k s lo n=>aT (Cz k K) (D s lo) (.ms k s lo n)
 | .el k s j f=>aT (Cz k K) (ae j f) (.el k s j f)
 |x=>x
def He (K:Nat) (D:Nat->Nat->AV) (ae:Nat->Nat->AV):bg->bg
 | []=> []
 |x::l=>Ie K D ae x::He K D ae l
end
mutual
def U8 (K sz:Nat):AV->bQ
 | .agg cs=>GP K sz cs
 | .dh cs=>GP K sz cs
 | .fn f a b=>GP K sz a++GP K sz b
 | .kN _ x=>U8 K sz x
 | .ms k s lo n=>aT (Cz k K&&(Cz s sz&&Cz lo 0)) [n] []
 |_=> []
def GP (K sz:Nat):bg->bQ
 | []=> []
 |x::l=>U8 K sz x++GP K sz l
end
mutual
def aaL {K sz:Nat} {D:Nat->Nat->AV} {ae:Nat->Nat->AV} {N:Nat->Prop} (h1:∀{v s lo n},(s=sz->lo=0->N n)->VA F g v (.ms K s lo n)->VA F g v (D s lo)) (h2:∀{v s j f},VA F g v (.el K s j f)->VA F g v (ae j f)):∀{x:AV} {v:SV},(∀n∈U8 K sz x,N n)->VA F g v x->VA F g v (Ie K D ae x)
 | .agg cs,_,hn,.agg q=>.agg (BC h1 h2 hn q)
 | .dh cs,_,hn,.dh q=>.dh (BC h1 h2 hn q)
 | .fn f a b,_,hn,.fn _ q1 q2=>.fn _ (BC h1 h2 (λn h=>hn n (iP _ h)) q1) (BC h1 h2 (λn h=>hn n (jw _ h)) q2)
 | .kN t x,_,hn,.kN _ q=>.kN t (aaL h1 h2 hn q)
 | .ms k s lo n,v,hn,q=>by
  show VA F g v (aT (Cz k K) (D s lo) (.ms k s lo n));rw[cx];split
  .rename_i e;obtain rfl:=(f9 _ _).1 e;refine h1 (λe1 e2=>hn n ?_) q
   show n∈aT (Cz k k&&(Cz s sz&&Cz lo 0)) [n] [];rw[e,(f9 _ _).2 e1,(f9 _ _).2 e2];exact gy.2 rfl
  .exact q
 | .el k s j f,v,hn,q=>by
  show VA F g v (aT (Cz k K) (ae j f) (.el k s j f));rw[cx];split
  .rename_i e;obtain rfl:=(f9 _ _).1 e;exact h2 q
  .exact q
 | .lit _,_,_,q| .sl ..,_,_,q| .kX _,_,_,q| .mp _,_,_,q| .it _,_,_,q| .undef,_,_,q=>q
def BC {K sz:Nat} {D:Nat->Nat->AV} {ae:Nat->Nat->AV} {N:Nat->Prop} (h1:∀{v s lo n},(s=sz->lo=0->N n)->VA F g v (.ms K s lo n)->VA F g v (D s lo)) (h2:∀{v s j f},VA F g v (.el K s j f)->VA F g v (ae j f)):∀{x:bg} {v:bj},(∀n∈GP K sz x,N n)->dS F g v x->dS F g v (He K D ae x)
 |_,_,_,.nil=>.nil
 |_,_,hn,.cons q t=>.cons (aaL h1 h2 (λn h=>hn n (iP _ h)) q) (BC h1 h2 (λn h=>hn n (jw _ h)) t)
end
def Bx.mapV (k:AV->AV) (ks:bg->bg):Bx->Bx
 | .flat e cs=>.flat e (ks cs)
 | .bG z e s l Q o=>.bG z e s l Q (o.map λp=>(p.1,k p.2))
 |b=>b
def UB (K sz:Nat):fN->bQ
 | []=> []
 |p::l=>U8 K sz p.2++UB K sz l
def UA (K sz:Nat):de->bQ
 | []=> []
 |p::l=>(match p.2 with| .flat _ cs=>GP K sz cs| .bG _ _ _ _ _ o=>UB K sz o|_=> [])++UA K sz l
def avs {K sz n t:Nat} {x:AV}:∀{l:fN},(t,x)∈l->n∈U8 K sz x->n∈UB K sz l
 |p::l,h,hn=>(cU.1 h).elim (λe=>iP _ (e ▸ hn)) λh=>jw _ (avs h hn)
def LS.eD (s:LS) (K:Nat) (D:Nat->Nat->AV) (ae:Nat->Nat->AV):LS:=⟨s.ts.map λp=>(p.1,Ie K D ae p.2),(l3 K s.bs).map λp=>(p.1,p.2.mapV (Ie K D ae) (He K D ae))⟩
def noK (x:AV):AV:=aT (kU x).isEmpty x .undef
def aMy {x:AV} (q:VA F g v x):VA F g' v (noK x):=by
 unfold noK;rw[cx];split
 .rename_i h;exact q.tR h
 .exact .undef v
def apk:∀{vs xs},dS F g vs xs->dS F g' vs (xs.map noK)
 |_,_,.nil=>.nil
 |_,_,.cons q t=>.cons (aMy q) (apk t)
def Dq (m n:Nat) (b:Bx) (s lo:Nat):AV:=
 match b with
 | .bG z e sz _ Q _=>aT (Cz s sz&&Cz lo 0) (.sl (aT (Cz m 2) 2 (aT z 1 0)) e sz n Q) .undef
 |_=>.undef
def Lw (b:Bx) (j f:Nat):AV:=
 match b with
 | .flat _ cs=>aT (Cz j 0&&D' f (O cs)) (.kX ((cs.map noK).drop f)) .undef
 |_=>.undef
def Bx.No (b:Bx):Nat×bB:=
 match b with
 | .bG _ _ sz _ Q _=>(sz,Q)
 |_=>(0,[])
def LS.NJ (s:LS) (K m n:Nat) (b:Bx):LS:=s.eD K (Dq m n b) (Lw b)
def NK (s:LS) (K n:Nat) (b:Bx) (ob:Prop->cF):List cF:=ob (O b.No.2=n)::(UB K b.No.1 s.ts++UA K b.No.1 s.bs).map λn'=>ob (O b.No.2=n')
def ajO {Y:Type} {f:Y->cF}:∀{l:List Y},jF (l.map f)->∀x∈l,(f x).need
 |y::l,h,x,hx=>(cU.1 hx).elim (λe=>e ▸ h.1) λhx=>ajO h.2 x hx
def ahN {K sz n k:Nat} {b:Bx}:∀{l:de},(k,b)∈l->(n∈match b with| .flat _ cs=>GP K sz cs| .bG _ _ _ _ _ o=>UB K sz o|_=> [])->n∈UA K sz l
 |p::l,h,hn=>(cU.1 h).elim (λe=>iP _ (e ▸ hn)) λh=>jw _ (ahN h hn)
def Rel.eD (r:Rel F g Z c s T H) {m:Nat} {b:Bx} {ob:Prop->cF} (gX:∀P,(ob P).need=P) (hb:lk K s.bs=V b) (ho:jF (NK s K n b ob)):∃F' c',oW F F'/\((∀i k,c' i=V k->c i=V k)/\(∀i,F' i≠A->F i≠A\/c i=V K)/\(∀i,c i≠V K->c' i=c i)/\∀i,c' i≠V K)/\Rel F' g Z c' (s.NJ K m n b) T H:=by
 obtain ⟨F',c',hF,hcw,hK,r'⟩:=r.sink K;have hK:=hK b hb;have q:=(r.bx K b hb).1;refine ⟨F',c',hF,hcw,?_⟩;obtain ⟨hn,ho⟩:=ho;rw[gX] at hn;have h1:∀{v s lo n'},(s=b.No.1->lo=0->O b.No.2=n')->VA F' g v (.ms K s lo n')->VA F' g v (Dq m n b s lo):=λ{v s lo n'} fB hv=>by
  unfold Dq;split
  .rename_i z e sz l Q o;rw[cx];split
   .rename_i h;simp only[bI] at h;obtain ⟨k1,k2⟩:=h;obtain rfl:=(f9 _ _).1 k1;obtain rfl:=(f9 _ _).1 k2;have fB:O Q=n':=fB rfl rfl;have hn:O Q=n:=hn;have hmz:aT (Cz m 2) 2 (aT z 1 0)=1->z=I:=λe=>by
     rw[cx] at e;split at e
     .cases e
     .cases z<;>first|rfl|cases e
    generalize Z K=ae at q hK;cases q with
    |nil Od=>
     cases hv with
     |sw=>subst hn;exact .nil _ _ _
     |ms _ _ _ h=>rw[Od] at h;cases h
     |zQ _ _ h=>cases h
    | @bG _ _ _ _ _ _ svs ae ta hz hu hc q ho=>
     cases hv with
     |sw _ h=>rw[ta] at h;cases h
     |zQ _ _ h=>cases h
     |ms=>
      rw[nX];subst hn;subst fB;refine .sl rfl (ur (hK ((g K).n,.cells e svs) am)) ?_ ⟨λe=>hz (hmz e),λe=>by rw[cx] at e;split at e;(·cases e);(·cases z<;>cases e)⟩ hu (by rw[cN];exact pH hc) (by rw[oQ];exact q.data hF λp hp=>hK p (fj _ hp))
      have:=apX hc;cases hκ:(g K).c<;>rw[hκ] at this<;>exact this
   .exact .undef v
  .exact .undef v
 have h2:∀{v s j f},VA F' g v (.el K s j f)->VA F' g v (Lw b j f):=λ{v s j f} hv=>by
  unfold Lw;split
  .rename_i e cs;rw[cx];split
   .rename_i hf;rw[bI] at hf;obtain rfl:=(f9 _ _).1 hf.1;have hf:f<=O cs:=(bO _ _).1 hf.2;cases hv;generalize Z K=ae at q hK;cases q with
    | @flat _ _ svs q=>
     have hl:=q.length;rw[nX,cN];refine .kX (ur (hK ((g K).n,.cells e svs) am)) (by rw[iz,ku];omega) ?_
     rw[iz,ku,jc (by rw[iz];omega)]
     exact ((apk q).mono hF).drop f
   .exact .undef v
  .exact .undef v
 have hN:=ajO ho;have vaA:∀{x v},(∀n∈U8 K b.No.1 x,n∈UB K b.No.1 s.ts++UA K b.No.1 s.bs)->VA F' g v x->VA F' g v (Ie K (Dq m n b) (Lw b) x):=λ{x v} hx q=>aaL (N:=λn=>O b.No.2=n) h1 h2 (λn hn=>by have:=hN n (hx n hn);rwa[gX] at this) q
 refine r'.arR (ft:=λ_=>Ie K (Dq m n b) (Lw b)) (fb:=λ_ b'=>b'.mapV (Ie K (Dq m n b) (Lw b)) (He K (Dq m n b) (Lw b))) r'.fr (λ_=>rfl) (λt v x hx q=>vaA (λn hn=>iP _ (avs (qk hx) hn)) q) λk b' ae hk q=> ?_
 have hk:lk k s.bs=V b':=by
  have hk:lk k (l3 K s.bs)=V b':=hk;rw[yw] at hk;split at hk
  .cases hk
  .exact hk
 cases q with
 |flat q=>exact .flat (BC (N:=λn=>O b.No.2=n) h1 h2 (λn hn=>by have:=hN n (jw _ (ahN (qk hk) hn));rwa[gX] at this) q)
 |nil h=>exact .nil h
 |bG hb hz hu hc q ho=>
  refine .bG hb hz hu hc q λp hp=> ?_
  obtain ⟨p0,hp0,rfl⟩:=dL.1 hp;obtain ⟨v,v1,v2⟩:=ho p0 hp0;exact ⟨v,v1,vaA (λn hn=>jw _ (ahN (qk hk) (avs (t:=p0.1) hp0 hn))) v2⟩
 |map h1 h2 h3=>exact .map h1 h2 h3
 |iter=>exact .iter
def Rel.K1 (r:Rel F g Z c s T H) {b b':Bx} (hb:lk K s.bs=V b) (h:∀{ae},fg F g K b ae->∃L',L'.Sublist ae/\fg F g K b' L'):∃φ' c',(∀i k,c' i=V k->c i=V k)/\Rel F g φ' c' (s.set K b') T H:=by
 let ⟨q,nd,own⟩:=r.bx K b hb;let ⟨L',hs,q'⟩:=h q;let ⟨c',r',_,hc,_⟩:=r.chg q' ((hs.map _).nodup nd) (λp hp=>⟨(own p (hs.subset hp)).1,.inl (own p (hs.subset hp)).2⟩) (λi hi=>absurd rfl hi) (.inl rfl)
 refine ⟨_,c',λi k hk=> ?_,r'⟩
 rcases hc i k hk with h|⟨rfl,hm⟩
 .exact h
 .obtain ⟨p,hp,rfl⟩:=dL.1 hm;exact (own p (hs.subset hp)).2
def kT.K1 {b b':Bx} (hb:lk K s.bs=V b) (h:∀{F g ae},fg F g K b ae->∃L',L'.Sublist ae/\fg F g K b' L'):kT pn s (s.set K b'):=.mk λ{F g Z c T H} r=>
 let ⟨φ',c',_,r'⟩:=r.K1 hb h
 ⟨F,g,φ',c',.refl _,λ_ _=>rfl,r'⟩
def lN.foc:∀{l vs xs ae} {k:Nat} {x:AV},lN F l vs xs ae->xs[k]? =V x->∃v L1 L0 L2,vs[k]? =V v/\ae=L1++(L0++L2)/\TC F ((l.drop k).headD .d) v x L0/\∀y Km,TC F ((l.drop k).headD .d) v y Km->lN F l vs (xs.set k y) (L1++(Km++L2))
 |_,_,_,_,_,_,.nil,h=>by cases h
 |l,_,_,_,0,x,.cons (v:=v) (b:=b) q t,h=>by
  obtain rfl:=kh (show V _=V x from h);exact ⟨v,[],_,b,rfl,rfl,q,λy Km q'=>show lN F l _ _ (Km++b) from .cons q' t⟩
 |l,_,_,_,k+1,x,.cons (a:=a) q t,h=>by
  obtain ⟨v,L1,L0,L2,h1,h2,h3,h4⟩:=t.foc (k:=k) (by simpa using h)
  have e:l.drop (k+1)=l.tail.drop k:=by cases l<;>simp
  rw[e];refine ⟨v,a++L1,L0,L2,by simpa using h1,by rw[h2,l6],h3,λy Km q'=> ?_⟩
  rw[l6];exact .cons q (h4 y Km q')
def TR.foc {s:Nat}:∀{l vs Q ae} {j k:Nat} {R:bg} {x:AV},TR F l vs Q ae->(∀r∈Q,O r=s)->Q[j]? =V R->R[k]? =V x->∃v L1 L0 L2,vs[j*s+k]? =V v/\ae=L1++(L0++L2)/\TC F ((l.drop k).headD .d) v x L0/\∀y Km,TC F ((l.drop k).headD .d) v y Km->TR F l vs (Q.set j (R.set k y)) (L1++(Km++L2))
 |_,_,_,_,_,_,_,_,.nil,_,h,_=>by cases h
 |l,_,_,_,0,k,R,x,.cons (vs:=vs) (b:=b) q t,hu,h,hx=>by
  obtain rfl:=kh (show V _=V R from h);obtain ⟨v,L1,L0,L2,h1,h2,h3,h4⟩:=q.foc hx;refine ⟨v,L1,L0,L2++b,?_,by rw[h2];simp,h3,λy Km q'=>by have:=TR.cons (h4 y Km q') t;simpa using this⟩
  rw[nX,cN,nc (bk.1 h1).1];exact h1
 |l,_,_,_,j+1,k,R,x,.cons (vs:=vs) (a:=a) q t,hu,h,hx=>by
  obtain ⟨v,L1,L0,L2,h1,h2,h3,h4⟩:=t.foc (λr hr=>hu r (fj _ hr)) (show _=V R by simpa using h) hx
  have hv:O vs=s:=by rw[q.length];exact hu _ (kr)
  refine ⟨v,a++L1,L0,L2,?_,by rw[h2,l6],h3,λy Km q'=> ?_⟩
  .rw[nW (by rw[hv,gz];omega),hv,show (j+1)*s+k-s=j*s+k by rw[gz];omega]
   exact h1
  .rw[l6];exact .cons q (h4 y Km q')
def uc:eG->Bool
 | []=>I
 | .d::l=>uc l
 |_=>U
def HB:∀{l:eG},uc l=I->l.headD .d= .d/\uc l.tail=I
 | [],_=>⟨rfl,rfl⟩
 | .d::l,h=>⟨rfl,h⟩
def lN.uc:∀{l l' vs xs ae},bM.uc l=I->bM.uc l'=I->lN F l vs xs ae->lN F l' vs xs ae
 |_,_,_,_,_,_,_,.nil=>.nil
 |l,l',_,_,_,h,h',.cons q t=>.cons (by rw[(HB h').1,<-(HB h).1];exact q) (t.uc (HB h).2 (HB h').2)
def TR.uc:∀{l l' vs xs ae},bM.uc l=I->bM.uc l'=I->TR F l vs xs ae->TR F l' vs xs ae
 |_,_,_,_,_,_,_,.nil=>.nil
 |_,_,_,_,_,h,h',.cons q t=>.cons (q.uc h h') (t.uc h h')
mutual
def aEg:Sh->Sh->Bool
 | .d,.d=>I
 | .o x l,.o y m=>(x==y)&&Qu l m
 |_,_=>U
def Qu:eG->eG->Bool
 | [],[]=>I
 |x::l,y::m=>aEg x y&&Qu l m
 |_,_=>U
end
mutual
def aKC:∀{a b:Sh},aEg a b=I->a=b
 | .d,.d,_=>rfl
 | .o x l,.o y m,h=>by
  have h:=j3.1 (show ((x==y)&&Qu l m)=I from h);rw[eq_of_beq h.1,ahx h.2]
 | .d,.o _ _,h=>by cases (show U=I from h)
 | .o _ _,.d,h=>by cases (show U=I from h)
def ahx:∀{a b:eG},Qu a b=I->a=b
 | [],[],_=>rfl
 |x::l,y::m,h=>by
  have h:=j3.1 (show (aEg x y&&Qu l m)=I from h);rw[aKC h.1,ahx h.2]
 | [],_::_,h=>by cases (show U=I from h)
 |_::_,[],h=>by cases (show U=I from h)
end
def S2 (l l':eG) (Q:bB):Bool:=Qu l l'||((uc l&&uc l')||(match Q with| []=>I|_=>U))
def aoF {l l':eG} {Q:bB} (h:S2 l l' Q=I) {ae:Ow} (q:TR F l vs Q ae):TR F l' vs Q ae:=by
 unfold S2 at h;rw[tG,tG,bI] at h;rcases h with h|h|h
 .rw[<-ahx h];exact q
 .exact q.uc h.1 h.2
 .split at h
  .cases q;exact .nil
  .cases h
open Classical in
def Rel.split (r:Rel F g Z c s T H) {b b1 b2:Bx} {L1 L2:Ow} (hb:lk K s.bs=V b) (hk:s.free K2) (hn:lk K2 s.bs=A) (hg:∀k,k≠K2->g' k=g k) (h1:fg F g' K b1 L1) (h2:fg F g' K2 b2 L2) (hs:∀p∈L1++L2,p∈Z K) (nd:((L1++L2).map (·.1)).Nodup):
  Rel F g' (j4 (j4 Z K L1) K2 L2) (λi=>if i∈L2.map (·.1) then V K2 else c i) ⟨s.ts,(K2,b2)::(K,b1)::s.bs⟩ T H:=by
 let ⟨_,_,own⟩:=r.bx K b hb;have dd:K≠K2:=λe=>by rw[e,hn] at hb;cases hb
 rw[ky] at nd;let ⟨n1,n2,n3⟩:=Cf.1 nd;have off:∀{k i},k≠K->c i=V k->i∉L2.map (·.1):=λ{k i} hk hc hm=>by
  obtain ⟨p,hp,rfl⟩:=dL.1 hm;rw[(own p (hs p (jw _ hp))).2] at hc;exact hk (kh hc).symm
 refine ⟨λt x hx hu=> ?_,λk b' jz=> ?_,λi o hi=>⟨(r.fr i o hi).1,?_⟩,λi hi=> ?_⟩
 .let ⟨v,v1,v2⟩:=r.tm t x hx hu;exact ⟨v,v1,v2.same (.refl F) λk jz=>hg k λe=>hk.1 t x hx (e ▸ jz)⟩
 .rw[show ({ts:=s.ts,bs:=(K2,b2)::(K,b1)::s.bs}:LS).bs=(K2,b2)::(K,b1)::s.bs from rfl,dH,dH] at jz;unfold j4;split at jz
  .rename_i e;cases jz;rw[ax e,e];exact ⟨h2,n2,λp hp=>⟨(own p (hs p (jw _ hp))).1,ax (dL.2 ⟨p,hp,rfl⟩)⟩⟩
  .rename_i e2;rw[au e2];split at jz
   .rename_i e;cases jz;rw[ax e,e];refine ⟨h1,n1,λp hp=>⟨(own p (hs p (iP _ hp))).1,?_⟩⟩
    rw[au λhm=>n3 p.1 (dL.2 ⟨p,hp,rfl⟩) p.1 hm rfl]
    exact (own p (hs p (iP _ hp))).2
   .rename_i e;rw[au e];let ⟨q1,q2,q3⟩:=r.bx k b' jz;refine ⟨q1.same (.refl F) (hg k e2) λj hj=>hg j λe=>hk.2 k b' e2 jz (e ▸ hj),q2,λp hp=>⟨(q3 p hp).1,?_⟩⟩
    rw[au (off e (q3 p hp).2)];exact (q3 p hp).2
 .have:=(r.fr i o hi).2;rw[au λhm=> ?_]
  .exact this
  .obtain ⟨p,hp,rfl⟩:=dL.1 hm;rw[(own p (hs p (jw _ hp))).2] at this;cases this
 .rw[au λhm=> ?_]
  .exact r.cn i hi
  .obtain ⟨p,hp,rfl⟩:=dL.1 hm;have:=(own p (hs p (jw _ hp))).1;rw[hi] at this;cases this
open Classical in
def Rel.join (r:Rel F g Z c s T H) {b b1 b2:Bx} {L1:Ow} (hb:lk K s.bs=V b) (hb2:lk K2 s.bs=V b2) (dd:K≠K2) (h1:fg F g K b1 L1) (hs:∀p∈L1,p∈Z K\/p∈Z K2) (nd:(L1.map (·.1)).Nodup):
  Rel F g (j4 Z K L1) (λi=>if i∈L1.map (·.1) then V K else c i) ⟨s.ts,(K,b1)::l3 K2 s.bs⟩ T H:=by
 have o1:=(r.bx K b hb).2.2;have o2:=(r.bx K2 b2 hb2).2.2;have own:∀p∈L1,H p.1=V p.2/\(c p.1=V K\/c p.1=V K2):=λp hp=>(hs p hp).elim (λh=>⟨(o1 p h).1,.inl (o1 p h).2⟩) λh=>⟨(o2 p h).1,.inr (o2 p h).2⟩
 refine ⟨r.tm,λk b' jz=> ?_,λi o hi=>⟨(r.fr i o hi).1,?_⟩,λi hi=> ?_⟩
 .rw[show ({ts:=s.ts,bs:=(K,b1)::l3 K2 s.bs}:LS).bs=(K,b1)::l3 K2 s.bs from rfl,dH,yw] at jz;unfold j4;split at jz
  .rename_i e;cases jz;rw[ax e,e];exact ⟨h1,nd,λp hp=>⟨(own p hp).1,ax (dL.2 ⟨p,hp,rfl⟩)⟩⟩
  .rename_i e;split at jz
   .cases jz
   .rename_i e2;rw[au e];let ⟨q1,q2,q3⟩:=r.bx k b' jz;refine ⟨q1,q2,λp hp=>⟨(q3 p hp).1,?_⟩⟩
    rw[au λhm=> ?_]
    .exact (q3 p hp).2
    .let ⟨p',CM,e'⟩:=dL.1 hm;have:=(own p' CM).2;rw[show p'.1=p.1 from e',(q3 p hp).2] at this;rcases this with h|h
     .exact e (kh h)
     .exact e2 (kh h)
 .have:=(r.fr i o hi).2;rw[au λhm=> ?_]
  .exact this
  .obtain ⟨p,hp,rfl⟩:=dL.1 hm;rcases (own p hp).2 with h|h<;>(rw[h] at this;cases this)
 .rw[au λhm=> ?_]
  .exact r.cn i hi
  .obtain ⟨p,hp,rfl⟩:=dL.1 hm;have:=(own p hp).1;rw[hi] at this;cases this
end
end Go.bM
end
