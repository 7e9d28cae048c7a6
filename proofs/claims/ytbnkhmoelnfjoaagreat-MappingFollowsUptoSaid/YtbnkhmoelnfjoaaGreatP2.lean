/- Part. -/
import Derived.Test.YtbnkhmoelnfjoaaGreatP1
import Derived.ProofKit
import Derived.OpenShut
set_option linter.all false
open Option renaming some->V,none->G
open Bool renaming true->M,false->B
open Nat renaming beq->iX,add->p8,ble->kN,mul->A',succ->J',div->O'
open Go renaming TypeId->ll,Operand->C',Program->E',IntKind->KH,BinOp->S'
open Decidable renaming decide->U
open List renaming replicate->P',length->aa8,range->aa3
open Go.CallsIn renaming mono->aa2
open Go.Lib renaming compareBytes->aa0
open Go.Op renaming bytesLess->Kx
open Go.Utf8 renaming decode->V'
open Go.Extern.BytealgCompare renaming compare->ac8
noncomputable section
namespace Go.bL
open Go.RowKit
variable {P:E'} {k f9 o new:Nat} {svs cs aa:bf} {us:fM} {x v:SV} {e t:ll} {cur:jP} {ups:hJ} {i:TI}
section
variable {E:Env} {g:Gh} {f:Hf} {w:World}
def aCl {k:FuncId} (h:ZL P k) (args:jP) (w:World):(callFunc k args).run P w= .ok (.enter k args) w:=by
 let ⟨fn,h1,h2,h3⟩:=h;rcases y7 h1 h2 args w with ⟨_,hc⟩|hc
 ·exact absurd hc h3
 ·exact hc
def aCR {g6 C:Nat} (h1:f9<=g6) (h2:g6<=C) (h3:C<=svs.length) (t:Nat):(CE f9 g6 C svs)[t]? =if t<f9 then svs[t]? else if t<f9+(C-g6) then svs[t+(g6-f9)]? else if t<C then V SV.undef else svs[t]? :=by
 have e:CE f9 g6 C svs=svs.take f9++((svs.drop g6).take (C-g6)++(P' (g6-f9) SV.undef++svs.drop C)):=rfl;rw[e,sM,dE,fu (by omega)]
 by_cases q1:t<f9
 ·rw[aF q1,aF q1,fw,aF q1]
 ·rw[aC q1,aC q1,sM,dE,jq,fu (by omega)]
  by_cases q2:t<f9+(C-g6)
  ·rw[aF (by omega),aF q2,fw,aF (by omega),fh]
   congr 1;omega
  ·rw[aC (by omega),aC q2,sM,uN]
   by_cases q3:t<C
   ·rw[aF (by omega),aF q3,List.getElem?_replicate,aF (by omega)]
   ·rw[aC (by omega),aC q3,fh]
    congr 1;omega
def aCQ {g6 C:Nat} (h1:f9<=g6) (h2:g6<=C) (h3:C<=svs.length):(CE f9 g6 C svs).length=svs.length:=by
 show (svs.take f9++((svs.drop g6).take (C-g6)++(P' (g6-f9) SV.undef++svs.drop C))).length=_;simp;omega
def nD.three {y z:SV} (h:nD g us [x,y,z]):∃a b c,us= [a,b,c]/\VR g a x/\VR g b y/\VR g c z:=by
 cases h with|cons h1 ht=>cases ht with|cons h2 ht=>cases ht with|cons h3 ht=>cases ht;exact ⟨_,_,_,rfl,h1,h2,h3⟩
def Cells.at {id b:Nat} (h:Cells g w id b o e cs):∃cur:jP,w.heap[b]? =V (.cells cur e (0,0))/\o+g.lim id<=cur.size/\o+cs.length<=cur.size/\∀(t:Nat) (x:SV),cs[t]? =V x->∃v,cur[o+t]? =V v/\v.oneCell'=M/\VR g v x:=by
 let ⟨⟨cur,m1,m0,vs,m2,m3⟩,m4⟩:=h;refine ⟨cur,m1,m0,?_,λt x hx=> ?_⟩
 ·have hl:=m2.length;rcases SF cs.length with q|q
  ·omega
  ·have:=m3 (cs.length-1) _ (cX (by omega))
   have:=(oI.1 this).1;omega
 ·let ⟨v,v1,v2,v3⟩:=m2.get hx;exact ⟨v,m3 t v v1,v2,v3⟩
def iy.awR (h4:∀(t:Nat) (x:SV),cs[t]? =V x->∃v,cur[o+t]? =V v/\v.oneCell'=M/\VR g v x):∃vs,iy g vs cs/\∀(j:Nat) (v:Value),vs[j]? =V v->cur[o+j]? =V v:=by
 refine ⟨(cur.toList.drop o).take cs.length,iy.mk ?_ λj v x hv hx=> ?_,λj v hv=> ?_⟩
 ·rcases SF cs.length with q|q
  ·rw[q];simp
  ·let ⟨v,a,_,_⟩:=h4 (cs.length-1) _ (cX (by omega))
   have:=(oI.1 a).1;simp;omega
 ·let ⟨v',a,b,c⟩:=h4 j x hx;have hj:=(bK.1 hx).1;rw[fw,aF hj,fh,mC,a] at hv;cases hv;exact ⟨b,c⟩
 ·rw[fw] at hv;split at hv
  ·rw[fh,mC] at hv;exact hv
  ·cases hv
def Cells.mk' {id b:Nat} (h1:w.heap[b]? =V (.cells cur e (0,0))) (h2:o+g.lim id<=cur.size) (h3:g.et id=e) (h4:∀(t:Nat) (x:SV),cs[t]? =V x->∃v,cur[o+t]? =V v/\v.oneCell'=M/\VR g v x):Cells g w id b o e cs:=by
 let ⟨vs,a,b⟩:=iy.awR h4;exact ⟨⟨cur,h1,h2,vs,a,b⟩,h3⟩
def TS:∀{l:bf} {xs:List Int},J3 l=V xs->l=fE xs
 | [],xs,h=>by cases h;rfl
 |v::l,xs,h=>by
  let ⟨x,r,h1,h2,h3⟩:=bT (show cj (Mz v) (J3 l) (λx r=>V (x::r))=V xs from h)
  cases h3;rw[TS h2];unfold Mz at h1;split at h1
  ·cases h1;rfl
  ·cases h1
def Nj:∀xs:List Int,(l8 xs).length<=xs.length
 | []=>cS _
 | [x]=>cS _
 |x::y::l=>by
  have:=Nj (y::l);show (if x=y then l8 (y::l) else x::l8 (y::l)).length<=_
  split
  ·exact Nat.le_succ_of_le this
  ·exact Nat.succ_le_succ this
def agX (x:Int):∀ys:List Int,(CA x ys).length=ys.length+1
 | []=>rfl
 |y::ys=>by
  unfold CA;split
  ·rfl
  ·rw[iU,agX x ys];rfl
def aab:∀xs:List Int,(fo xs).length=xs.length
 | []=>rfl
 |x::xs=>by rw[fo,agX,aab xs];rfl
def ayv (b:Bool) (xs:List Int):(Dc b xs).length=xs.length:=by
 cases b
 ·have:=Nj xs;show (l8 xs++P' (xs.length-(l8 xs).length) 0).length=_;rw[gf,uN];omega
 ·exact aab xs
def nD.one (h:nD g us [x]):∃a,us= [a]/\VR g a x:=by
 cases h with|cons h1 ht=>cases ht;exact ⟨_,rfl,h1⟩
def ayu {z:Bool} (hP:UC E.P k z) (h:HR g f w) (oA:nD g us aa) (ho:abI z f aa=V (v,ups)) (m:Nat):
  ZL E.P k/\CallsIn Fence.wide m E.P k us.toArray w λe w'=>∃r g',e= .returned r/\iz g f w v ups new r g' w':=by
 let ⟨EJ,h0,h1⟩:=hP;refine ⟨EJ,?_⟩;unfold abI at ho;split at ho
 ·cases ho;obtain ⟨a,rfl,q⟩:=oA.one;cases q;refine aa2 (h0 m w G 0) ?_;rintro e w' ⟨rfl,e1,e2,e3,e4⟩;have hs:Ux w w':=⟨e2,e3,e4,by rw[e1];exact cS _,λb _=>by rw[e1]⟩
  refine ⟨_,g,rfl,?_,h.grow hs.size hs.heap,⟨hs.os,hs.tape,hs.output,hs.size,.refl _,λb hb _=>hs.heap b hb,λb hb hm=>hm⟩,λ_ _=>rfl,λ_=>rfl⟩
  cases z
  ·exact .cr
  ·exact .dq .nil
 ·rename_i id off n cp;rw[cI] at ho;split at ho
  ·rename_i hn0;have hn0:n=0:=(beq_iff _ _).1 hn0;subst hn0;cases ho;obtain ⟨a,rfl,q⟩:=oA.one;cases q with
   | @sl _ _ _ b o c _ hρ vV jH vW=>
   refine aa2 (h0 m w (V ⟨b,o+off,G⟩) c) ?_;rintro e w' ⟨rfl,e1,e2,e3,e4⟩;have hs:Ux w w':=⟨e2,e3,e4,by rw[e1];exact cS _,λb _=>by rw[e1]⟩
   refine ⟨_,g,rfl,?_,h.grow hs.size hs.heap,⟨hs.os,hs.tape,hs.output,hs.size,.refl _,λb hb _=>hs.heap b hb,λb hb hm=>hm⟩,λ_ _=>rfl,λ_=>rfl⟩
   cases z
   ·exact .sl hρ (ru _) jH vW
   ·exact .dq .nil
  let ⟨p,hp,ho⟩:=aq ho;let ⟨xs,hx,ho⟩:=aq ho;let ⟨hc,ho⟩:=aZ ho;simp only[bJ] at hc;let ⟨c0,c1,c2⟩:=hc;have c0:1<=n:=(bN _ _).1 c0;have c1:off+n<=p.2.length:=(bN _ _).1 c1;have c2:n<=4294967295:=(bN _ _).1 c2;cases ho;have hf:=sq hp;have hxs:=TS hx;have hn:xs.length=n:=by
   have:=bH aa8 hxs;simp[fE] at this;omega
  subst hn;obtain ⟨a,rfl,q⟩:=oA.one;cases q with
  | @sl _ _ _ b o c _ hρ vV jH vW=>
  have pb:Cells g w id b o p.1 p.2:=(h.at hf hρ).2;let ⟨cur,m1,m0,ml,m2⟩:=pb.at;have om:∀t x,xs[t]? =V x->p.2[off+t]? =V (.int .i64 (.lit x)):=λt x qz=>by
   have hl:=(bK.1 qz).1;have e:=bH (λl=>l[t]?) hxs
   rw[fw,aF hl,fh] at e;rw[e,fE,oe,qz];rfl
  refine aa2 (h1 m w b (o+off) c xs cur p.1 m1 (by omega) c2 vV λt x qz=> ?_) ?_
  ·let ⟨u,u1,_,u3⟩:=m2 _ _ (om t x qz);cases u3 with|int _ _ e=>
   have e:_=x:=e;subst e;rw[gL];exact u1
  rintro e w' ⟨rfl,w1,j6,hw,hs,oQ,r1,r2⟩;have hgl:=ayv z xs;have ahq:Cells g w1 id b o p.1 (p.2.take off++(fE (Dc z xs)++p.2.drop (off+xs.length))):=Cells.mk' hw.heap (by rw[oQ];exact m0) pb.et λt x qz=>by
   rw[sM,dE,fu (by omega)] at qz
   split at qz
   ·rename_i ht;rw[fw,aF ht] at qz;rw[r1 (o+t) (.inl (by omega))];exact m2 t x qz
   ·rename_i ht;rw[sM,fE,my,hgl] at qz;split at qz
    ·rename_i ht2;rw[oe] at qz;cases hy:(Dc z xs)[t-off]? with
     |none=>rw[hy] at qz;cases qz
     |some y=>
      rw[hy] at qz;cases qz;have:=r2 _ _ hy;rw[show o+off+(t-off)=o+t by omega] at this
      exact ⟨_,this,rfl,.int _ _ rfl⟩
    ·rename_i ht2;rw[fh] at qz;rw[r1 (o+t) (.inr (by omega))]
     have:=m2 _ x qz;rw[show o+t=o+(off+xs.length+(t-off-xs.length)) by omega]
     exact this
  let ⟨t1,t2⟩:=h.write (o':=.cells p.1 _) hf hρ hw.size hw.Lv ahq hw.os hw.tape hw.output;have t3:=t1.grow hs.size hs.heap;refine ⟨_,g,rfl,?_,t3,?_,λ_ _=>rfl,λ_=>rfl⟩
  ·cases z
   ·have:=Nj xs;exact .sl hρ (by show (l8 xs).length<=c;omega) jH vW
   ·exact .dq .nil
  ·exact t2.trans ⟨hs.os,hs.tape,hs.output,hs.size,.refl _,λb hb _=>hs.heap b hb,λb hb hm=>hm⟩
 ·cases ho
def awo (hE:fR E g) {c:Nat} (hP:KJ E k c) (h:HR g f w) (hn:g.O new=G) (oA:nD g us aa) (ho:xE E c f new aa=V (v,ups)) (m:Nat):
  ZL E.P k/\CallsIn Fence.wide m E.P k us.toArray w λe w'=>∃r g',e= .returned r/\iz g f w v ups new r g' w':=by
 unfold xE at ho;rw[cI] at ho;split at ho
 ·rename_i aCf;exact ayu (hP.1 ((bN _ _).1 aCf)) h oA ho m
 rename_i aCf;let ⟨ie,hie,ho⟩:=aq ho;let ⟨hd,hi⟩:=hP.2 (by
  by_cases hc:c<1048576
  ·exact hc
  ·exact absurd ((bN _ _).2 (by omega)) aCf) ie hie
 rw[cI] at ho;split at ho
 ·rename_i h0;let ⟨EJ,hd⟩:=hd ((beq_iff _ _).1 h0);refine ⟨EJ,?_⟩;unfold arL at ho;split at ho;rotate_left
  ·cases ho
  rename_i id off n cp a b _;let ⟨i,j,p,ha,hb,hp,ho⟩:=Dj ho;let ⟨hc,ho⟩:=aZ ho;simp only[bJ] at hc;let ⟨c1,c2,c3⟩:=hc;have c1:i<j:=(bN _ _).1 c1;have c2:j<=n:=(bN _ _).1 c2;have c3:off+n*ie.size<=p.2.length:=(bN _ _).1 c3;cases ho;obtain rfl:=FN ha;obtain rfl:=FN hb;obtain ⟨x,y,z,rfl,q1,q2,q3⟩:=oA.three;have hf:=sq hp;cases q2 with|int _ _ e2=>cases q3 with|int _ _ e3=>
  have e2:_=(i:Int):=e2;have e3:_=(j:Int):=e3;subst e2;subst e3;cases q1 with
  | @sl _ _ _ b o c _ hρ vV jH vW=>
  have pb:Cells g w id b o p.1 p.2:=(h.at hf hρ).2;let ⟨cur,m1,m0,ml,m2⟩:=pb.at;have hA:i*ie.size<=j*ie.size:=jn _ (by omega)
  have hB:j*ie.size<=n*ie.size:=jn _ c2;refine aa2 (hd m w b (o+off) n c i j cur p.1 m1 (by omega) (λt ht u hu=> ?_) c1 c2 vV) ?_
  ·let ⟨u',u1,u2,_⟩:=m2 (off+t) _ (cX (by omega))
   rw[<-gL,hu] at u1;cases u1;exact u2
  rintro e w' ⟨rfl,j6,hw,hs,r1,r2,r3⟩;have ahq:Cells g w' id b o p.1 (CE (off+i*ie.size) (off+j*ie.size) (off+n*ie.size) p.2):=Cells.mk' hw.heap (by rw[hs];exact m0) pb.et λt x hx=>by
   rw[aCR (by omega) (by omega) (by omega)] at hx
   split at hx
   ·rw[r1 (o+t) (.inl (by omega))];exact m2 t x hx
   ·split at hx
    ·have:=r2 (t-(off+i*ie.size)) (by omega)
     rw[show o+off+i*ie.size+(t-(off+i*ie.size))=o+t by omega,show o+off+j*ie.size+(t-(off+i*ie.size))=o+(t+(off+j*ie.size-(off+i*ie.size))) by omega] at this
     rw[this];exact m2 _ x hx
    ·split at hx
     ·cases hx;let ⟨u,u1,u2⟩:=r3 (t-(off+i*ie.size+(n*ie.size-j*ie.size))) (by omega)
      rw[show o+off+i*ie.size+(n*ie.size-j*ie.size)+(t-(off+i*ie.size+(n*ie.size-j*ie.size)))=o+t by omega] at u1
      exact ⟨u,u1,u2,.undef u⟩
     ·rw[r1 (o+t) (.inr (by omega))];exact m2 t x hx
  let ⟨t1,t2⟩:=h.write (o':=.cells p.1 _) hf hρ hw.size hw.Lv ahq hw.os hw.tape hw.output;exact ⟨_,g,rfl,.sl hρ (by show n-(j-i)<=c;omega) jH vW,t1,t2,λ_ _=>rfl,λ_=>rfl⟩
 ·rename_i h0;let ⟨EJ,hi⟩:=hi (λe=>h0 ((beq_iff _ _).2 e))
  refine ⟨EJ,?_⟩;unfold aqQ at ho;split at ho;rotate_left
  ·cases ho
  rename_i id off n cp a FY xQ q c2 _;let ⟨i,p,p2,ha,hp,hp2,ho⟩:=Dj ho;let ⟨hc,ho⟩:=aZ ho;simp only[bJ] at hc;let ⟨c1,c3,c4,c5,c6,c7,c8,c9,c10⟩:=hc;have c1:i<=n:=(bN _ _).1 c1;have c3:1<=q:=(bN _ _).1 c3;have c4:n<=1000000:=(bN _ _).1 c4;have c5:q<=1000000:=(bN _ _).1 c5;have c6:id≠FY:=λe=>by rw[(beq_iff _ _).2 e] at c6;cases c6
  have c7:p.1=O' c 2:=(beq_iff _ _).1 c7;have c8:off+n*ie.size<=p.2.length:=(bN _ _).1 c8;have c9:xQ+q*ie.size<=p2.2.length:=(bN _ _).1 c9;cases ho;obtain rfl:=FN ha;obtain ⟨x,y,z,rfl,q1,q2,q3⟩:=oA.three;have hf:=sq hp;have hf2:=sq hp2;cases q2 with|int _ _ e2=>
  have e2:_=(i:Int):=e2;subst e2;cases q1 with
  | @sl _ _ _ b o cc _ hρ vV jH vW=>
  cases q3 with
  | @sl _ _ _ b2 o2 cc2 _ hρ2 hnc2 aFR hlim2=>
  have pb:Cells g w id b o p.1 p.2:=(h.at hf hρ).2;have aLz:Cells g w FY b2 o2 p2.1 p2.2:=(h.at hf2 hρ2).2;let ⟨cur,m1,m0,ml,m2⟩:=pb.at;let ⟨arP,n1,n0,nl,n2⟩:=aLz.at;have hbb:b2≠b:=λe=>c6 (h.inj id FY _ _ b o o2 hf hf2 hρ (by rw[<-e];exact hρ2))
  have nT:o+off+cc*ie.size<=cur.size:=by
   cases cp with
   |k c0=>
    have:=jH c0 rfl;subst this;have:off+cc*ie.size<=p.2.length:=(bN _ _).1 c10;omega
   |u e0=>
    let ⟨l1,l2⟩:=vW e0 rfl;have:g.sz e0=ie.size:=by rw[<-l1,pb.et,c7];exact hE.size hie
    rw[this] at l2;omega
  refine aa2 (hi m w b (o+off) n cc i b2 (o2+xQ) q cc2 cur arP p2.1 (by rw[m1,c7];rfl) n1 hbb nT (by omega) (λt ht u hu=> ?_) (λt ht u hu=> ?_) vV c4 c3 c5 c1) ?_
  ·let ⟨u',u1,u2,_⟩:=m2 (off+t) _ (cX (by omega))
   rw[<-gL,hu] at u1;cases u1;exact u2
  ·let ⟨u',u1,u2,_⟩:=n2 (xQ+t) _ (cX (by omega))
   rw[<-gL,hu] at u1;cases u1;exact u2
  rintro e w' ⟨b',o',c',j6,rfl,hnc',hsz',om,hw⟩;have hle:=Gh.H9 (g:=g) (p:=(b',o')) (l:=c'*ie.size) (e:=O' c 2) hn;have hxl:((p.2.drop off).take (n*ie.size)).length=n*ie.size:=by simp;omega
  have hyl:((p2.2.drop xQ).take (q*ie.size)).length=q*ie.size:=by simp;omega
  have hXl:((cur.toList.drop (o+off)).take (n*ie.size)).length=n*ie.size:=by simp;omega
  have hYl:((arP.toList.drop (o2+xQ)).take (q*ie.size)).length=q*ie.size:=by simp;omega
  have jD:i*ie.size<=n*ie.size:=jn _ c1;have aFP:∀(t:Nat) (x:SV),(CB ((p.2.drop off).take (n*ie.size)) (i*ie.size) ((p2.2.drop xQ).take (q*ie.size)))[t]? =V x->∃v,j6[o'+t]? =V v/\v.oneCell'=M/\VR g v x:=λt x hx=>by
   have hl:t<n*ie.size+q*ie.size:=by
    have:=(bK.1 hx).1;simp[CB] at this;omega
   rw[om t (by rw[fS];exact hl)]
   show ∃v,((((cur.toList.drop (o+off)).take (n*ie.size)).take (i*ie.size))++(((arP.toList.drop (o2+xQ)).take (q*ie.size))++(((cur.toList.drop (o+off)).take (n*ie.size)).drop (i*ie.size))))[t]? =V v/\_;have hx:((((p.2.drop off).take (n*ie.size)).take (i*ie.size))++(((p2.2.drop xQ).take (q*ie.size))++(((p.2.drop off).take (n*ie.size)).drop (i*ie.size))))[t]? =V x:=hx;have src:∀s,s<n*ie.size->∀x,((p.2.drop off).take (n*ie.size))[s]? =V x->∃v,((cur.toList.drop (o+off)).take (n*ie.size))[s]? =V v/\v.oneCell'=M/\VR g v x:=λs hs x hx=>by
    rw[fw,aF hs,fh] at hx;let ⟨v,a,b,c⟩:=m2 _ x hx;exact ⟨v,by rw[fw,aF hs,fh,mC,gL];exact a,b,c⟩
   have src2:∀s,s<q*ie.size->∀x,((p2.2.drop xQ).take (q*ie.size))[s]? =V x->∃v,((arP.toList.drop (o2+xQ)).take (q*ie.size))[s]? =V v/\v.oneCell'=M/\VR g v x:=λs hs x hx=>by
    rw[fw,aF hs,fh] at hx;let ⟨v,a,b,c⟩:=n2 _ x hx;exact ⟨v,by rw[fw,aF hs,fh,mC,gL];exact a,b,c⟩
   rw[sM] at hx ⊢;rw[dE,hxl,fu jD] at hx;rw[dE,hXl,fu jD];by_cases q1:t<i*ie.size
   ·rw[aF q1,fw,aF q1] at hx;rw[aF q1,fw,aF q1];exact src t (by omega) x hx
   ·rw[aC q1,sM,hyl] at hx;rw[aC q1,sM,hYl];by_cases q2:t-i*ie.size<q*ie.size
    ·rw[aF q2] at hx;rw[aF q2];exact src2 _ q2 x hx
    ·rw[aC q2,fh] at hx;rw[aC q2,fh];exact src _ (by omega) x hx
  have Ii:∀{h3:w'.heap[b']? =V (.cells j6 (O' c 2) (0,0))},OR (g.bind new (b',o') (c'*ie.size) (O' c 2)) w' new b' o' (.cells (O' c 2) (CB ((p.2.drop off).take (n*ie.size)) (i*ie.size) ((p2.2.drop xQ).take (q*ie.size)))):=λ{h3}=>
   Cells.mk' h3 (by rw[Gh.AX];exact hsz') (Gh.DR _ _ _ _ _) λt x hx=>by
    let ⟨v,a,b,c⟩:=aFP t x hx;exact ⟨v,a,b,c.mono hle⟩
  have RG:VR (g.bind new (b',o') (c'*ie.size) (O' c 2)) (.slice (V ⟨b',o',G⟩) (n+q) c') (.sl new 0 (n+q) (.u (O' c 2))):=
   .sl (id:=new) (off:=0) (o:=o') (b:=b') (cap:=.u (O' c 2)) (Gh.kn _ _ _ _ _) hnc' (λk hk=>by cases hk) (λe' he=>by
    cases he;refine ⟨Gh.DR _ _ _ _ _,?_⟩;rw[Gh.AX];show 0+c'*g.sz (O' c 2)<=_;rw[hE.size hie];omega)
  rcases hw with ⟨rfl,rfl,hw⟩|⟨rfl,rfl,hw⟩
  ·let ⟨t1,t2⟩:=h.rename (o':=.cells (O' c 2) (CB ((p.2.drop off).take (n*ie.size)) (i*ie.size) ((p2.2.drop xQ).take (q*ie.size)))) hn hf hρ hw.size hw.Lv (Ii (h3:=hw.heap)) hw.os hw.tape hw.output;exact ⟨_,_,rfl,RG,t1,t2,λk hk=>Gh.mO _ _ _ _ hk,λEG=>by cases EG⟩
  ·let ⟨k1,k2⟩:=h.kill id;let ⟨vs,a1,a2⟩:=iy.awR aFP;have qA:w'=World.alloc {w' with heap:=w.heap} (.cells j6 (O' c 2)):=by
    show w'={w' with heap:=w.heap.push (.cells j6 (c / 2) (0,0))}
    rw[<-hw.heap]
   exact ⟨_,_,rfl,(k1.row hn (w0:={w' with heap:=w.heap}) ⟨rfl,hw.os,hw.tape,hw.output⟩ qA a1 (λj v hv=>by rw[<-cq j];exact a2 j v hv) (by omega) RG).kill h⟩
section
variable {τ:Nat->Nat} {D:Nat->Prop} [DecidablePred D] {S:bP}
end
section
variable {τ:Nat->Nat}
end
def aax (a b:Z):aa0 a.data.toList b.data.toList=Np a b:=by
 have key:∀(l m:List UInt8),aa0 l m=if DQ l m=M then -1 else if uG l m=M then 0 else 1:=by
  intro l;induction l with
  |nil=>intro m;cases m<;>simp[aa0,DQ,uG]
  |cons x l ih=>
   intro m;cases m with
   |nil=>simp[aa0,DQ,uG]
   |cons y m=>
    unfold aa0 DQ uG;rw[ih m,cI,cI,ble_eq,beq_eq];have h1:(x<y)↔x.toNat+1<=y.toNat:=by rw[UInt8.lt_iff_toNat_lt];omega
    have h2:(y<x)↔y.toNat<x.toNat:=UInt8.lt_iff_toNat_lt;by_cases Ib:x<y
    ·simp[Ib,h1.1 Ib]
    ·by_cases hyx:y<x
     ·have a1:¬(x.toNat+1<=y.toNat):=λh=>Ib (h1.2 h)
      have a2:¬(x.toNat=y.toNat):=λh=>by have:=h2.1 hyx;omega
      simp[Ib,hyx,a1,a2]
     ·have a1:¬(x.toNat+1<=y.toNat):=λh=>Ib (h1.2 h)
      have a3:¬(y.toNat<x.toNat):=λh=>hyx (h2.2 h)
      have a2:x.toNat=y.toNat:=by omega
      have a4:¬(y.toNat+1<=y.toNat):=by omega
      simp[Ib,hyx,a2,a4]
 rw[key];unfold Np;rw[cI,cI]
end
section
variable {E:Env} {g:Gh} {f:Hf} {w:World}
def gh0 (P:E') (η:Nat->Int):Gh:=⟨η,P.cellsOf,λ_=>G,λ_=>0,λ_=>0,λ_=>G⟩
def ui {J:Type} (Q:Nat->J->Prop):Tr J->(Nat->Nat)->Prop
 | .nil,_=>True
 | .node l v r,Y=>(match v with|none=>True|some x=>Q (Y 0) x)/\ui Q l (λj=>Y (2*j+1))/\ui Q r (λj=>Y (2*j+2))
def ui.get {J:Type} {Q:Nat->J->Prop}:∀{t:Tr J} {Y:Nat->Nat},ui Q t Y->∀i x,t.get i=V x->Q (Y i) x
 | .nil,_,_,i,x,h=>by cases h
 | .node l v r,Y,⟨h1,h2,h3⟩,i,x,h=>by
  rw[Tr.ER] at h;split at h
  ·rename_i e;subst e;subst h;exact h1
  ·split at h
   ·rename_i e1 e2;have:=ui.get h2 _ x h;have e:2*(i / 2)+1=i:=by omega
    simp only[e] at this;exact this
   ·rename_i e1 e2;have:=ui.get h3 _ x h;have e:2*(i / 2-1)+2=i:=by omega
    simp only[e] at this;exact this
def Xa:TypeDesc->UD
 | .bool=>.bool
 | .int k=>.int k
 | .string=>.string
 | .pointer _=>.pointer
 | .slice e=>.slice e
 | .array n e=>.array n e
 | .map k e=>.map k e
 | .struct fs=>.struct (fs.toList.map λf=>FL.mk f.type f.offset (!(f.name== "_")))
 | .func _ _ _=>.func
 | .interface _=>.interface
 |_=>.other
def TT (P:E'):List Field->Bool
 | []=>M
 |f::fs=>(P.info? f.type).isSome&&TT P fs
def aSv (P:E'):TypeDesc->Bool
 | .struct fs=>TT P fs.toList
 | .bool| .int _| .string| .pointer _| .slice _| .array _ _| .map _ _| .func _ _ _| .interface _=>M
 |_=>B
def Uv:fM->Bool
 | []=>M
 |v::vs=>v.oneCell'&&Uv vs
def agS:Value->Bool
 | .agg _=>M
 |_=>B
def aDN (agg:Bool) (size:Nat) (z:Value):Bool:=Uv z.cells.toList&&aS agg (agS z&&iX z.cells.toList.length size) z.oneCell'
def apK (P:E') (t:ll):A TI:=
 cj (P.underlying t) (P.info? t) λd f=>ay f.zero λz=>aS (aSv P d&&aDN (nq (Xa d)) f.size z) (V ⟨Xa d,f.size,f.bytes,ue z.cells.toList,f.comparable⟩) G
def QT {P:E'}:∀{fs:List Field},TT P fs=M->∀f∈fs,(P.info? f.type).isSome=M
 | [],_,f,hf=>by simp at hf
 |x::fs,h,f,hf=>by
  unfold TT at h;rw[bJ] at h;rcases da.1 hf with rfl|hf
  ·exact h.1
  ·exact QT h.2 f hf
def Uu (g:Gh):∀{vs:fM},Uv vs=M->iy g vs (ue vs)
 | [],_=>.nil
 |v::vs,h=>by
  unfold Uv at h;rw[bJ] at h;exact .cons h.1 (zp g v) (Uu g h.2)
def Gf:∀(vs:fM),(ue vs).length=vs.length
 | []=>rfl
 |v::vs=>by show (wO v::ue vs).length=_;simp[Gf vs]
def auV (h:apK P t=V i):E7 P t i:=by
 let ⟨d,fi,hd,hf,h⟩:=bT h;let ⟨z,hz,h⟩:=aq h;let ⟨hc,h⟩:=aZ h;cases h;rw[bJ] at hc;let ⟨hdb,CU⟩:=hc;unfold aDN at CU;rw[bJ] at CU;let ⟨ha,CU⟩:=CU;refine ⟨?_,fi,z,hf,rfl,rfl,rfl,hz,⟨λg=>Uu g ha,λEN=> ?_,λEN=> ?_⟩,λEN=> ?_⟩
 ·show NN P t (Xa d);cases d<;>first
   |exact hd
   |exact ⟨_,hd⟩
   |exact ⟨_,_,_,hd⟩
   |(
    refine ⟨_,hd,?_,QT hdb⟩
    refine DZ λf _=> ?_
    by_cases hn:f.name= "_" <;>simp[hn])
   |(cases hdb;done)
 ·have EN:nq (Xa d)=M:=EN;rw[EN] at CU;have CU:(agS z&&iX z.cells.toList.length fi.size)=M:=CU;rw[bJ] at CU;cases z<;>first|exact ⟨_,rfl⟩|(cases CU.1;done)
 ·have EN:nq (Xa d)=B:=EN;rw[EN] at CU;exact CU
 ·have EN:nq (Xa d)=M:=EN;rw[EN] at CU;have CU:(agS z&&iX z.cells.toList.length fi.size)=M:=CU;rw[bJ] at CU;show (ue z.cells.toList).length=fi.size;rw[Gf];exact (beq_iff _ _).1 CU.2
end
end Go.bL
namespace Go.bL
variable {done:List (Nat×SV)} {apJ:List (Nat×Nat)} {memo stop:bP} {η:Nat->Int}
section
def HX (fn:Func):Bool:=fn.body.isSome|| !(fn.name== "internal/bytealg.abigen_runtime_cmpstring")
def aVZ (P:E') (k:Nat) (fn:Func):Prop:=P.funcs[k]? =V fn/\arp fn=M/\(HX fn=M\/(Extern.findNext fn=G/\Extern.find fn=V ac8))
def aVY (P:E') (t:Nat) (i:TI):Prop:=apK P t=V i
structure acd (P:E') (ty:Tr TI) (fn:Tr Func):Prop where
 ty:ui (aVY P) ty id
 fn:ui (aVZ P) fn id
 mix:P.follows .mixedOrders=M
variable {P:E'} {ty:Tr TI} {fn:Tr Func}
def acd.aSt (h:acd P ty fn) {lt eq:List (SI×SI×Bool)} {join:bP} (dz:∀a b r,(a,b,r)∈lt->U (a.ev η<b.ev η)=r) (heq:∀a b r,(a,b,r)∈eq->U (a.ev η=b.ev η)=r):
  fR ⟨P,ty,fn,lt,eq,done,join,apJ,memo,stop⟩ (gh0 P η):=
 ⟨λt i hi=>auV (ui.get h.ty t i hi),λf x hx=>(ui.get h.fn f x hx).1,dz,heq,h.mix,λ_=>rfl⟩
end
end Go.bL
namespace Go.bL
open Go.RowKit

end Go.bL
namespace Go.bL
variable {P:E'} {fe:Func}
def alt {J:Type} (l:List J):Bool->List J:= @List.rec J (λ_=>Bool->List J) (λ_=> []) (λx _ ih b=>aS b (x::ih B) (ih M)) l
def adY {J:Type} (d:Nat):List (A J)->Tr J:= @Nat.rec (λ_=>List (A J)->Tr J) (λ_=>.nil) (λ_ ih l=> @List.rec (A J) (λ_=>Tr J) .nil (λx xs _=>.node (ih (alt xs M)) x (ih (alt xs B))) l) d
def PE {J:Type}:∀(l:List J) (j:Nat),(alt l M)[j]? =l[2*j]? /\(alt l B)[j]? =l[2*j+1]?
 | [],j=>⟨by simp[alt],by simp[alt]⟩
 |x::l,j=>by
  have h1:alt (x::l) M=x::alt l B:=rfl;have h2:alt (x::l) B=alt l M:=rfl;rw[h1,h2];constructor
  ·cases j with
   |zero=>rfl
   |succ j=>rw[uo,(PE l j).2,show 2*(j+1)=(2*j+1)+1 by omega,uo]
  ·rw[(PE l j).1,uo]
def JD {J:Type} {Q:Nat->J->Prop}:∀(d:Nat) (l:List (A J)) (Y:Nat->Nat),(∀i x,l[i]? =V (V x)->Q (Y i) x)->ui Q (adY d l) Y
 |0,_,_,_=>trivial
 |d+1,[],_,_=>trivial
 |d+1,x::xs,Y,H=>by
  show ui Q (.node (adY d (alt xs M)) x (adY d (alt xs B))) Y;unfold ui;refine ⟨?_,JD d _ _ λi y h=> ?_,JD d _ _ λi y h=> ?_⟩
  ·cases x with
   |none=>trivial
   |some x=>exact H 0 x rfl
  ·rw[(PE xs i).1] at h;exact H (2*i+1) y (by rw[uo];exact h)
  ·rw[(PE xs i).2] at h;exact H (2*i+2) y (by rw[show 2*i+2=(2*i+1)+1 from rfl,uo];exact h)
def aDR (P:E') (n:Nat):Tr TI:=adY 10 ((aa3 n).map (apK P))
def aFT (P:E'):Tr Func:=adY 10 (P.funcs.toList.map V)
def aPY (e:Nat) (l:List Bool):Bool:= @List.rec Bool (λ_=>Nat->Bool) (λ_=>M) (λb _ ih k=>aS (b||iX k e) (ih (k+1)) B) l 0
def Uw {e:Nat}:∀(l:List Bool) (k i:Nat),(@List.rec Bool (λ_=>Nat->Bool) (λ_=>M) (λb _ ih k=>aS (b||iX k e) (ih (k+1)) B) l k)=M->l[i]? =V B->k+i=e
 | [],k,i,_,h=>by simp at h
 |b::l,k,i,h,hi=>by
  have h:aS (b||iX k e) (@List.rec Bool (λ_=>Nat->Bool) (λ_=>M) (λb _ ih k=>aS (b||iX k e) (ih (k+1)) B) l (k+1)) B=M:=h
  cases i with
  |zero=>
   have:b=B:=by simpa using hi
   subst this;cases hk:iX k e with
   |true=>exact Nat.eq_of_beq_eq_true hk
   |false=>rw[hk] at h;cases h
  |succ i=>
   cases hb:(b||iX k e) with
   |false=>rw[hb] at h;cases h
   |true=>
    rw[hb] at h;have:=Uw l (k+1) i h (by simpa using hi)
    omega
def aKu (n e:Nat) (h0:(P.funcs.toList.all λf=>arp f)=M) (h1:aPY e (P.funcs.toList.map HX)=M) (he:P.funcs[e]? =V fe) (h2:Extern.findNext fe=G) (h3:Extern.find fe=V ac8) (hm:P.follows .mixedOrders=M):acd P (aDR P n) (aFT P):=by
 refine ⟨JD _ _ _ λi x h=> ?_,JD _ _ _ λi x h=> ?_,hm⟩
 ·rw[oe] at h;cases hr:(aa3 n)[i]? with
  |none=>rw[hr] at h;cases h
  |some j=>
   rw[hr] at h;have hj:apK P j=V x:=by simpa using h
   have:=bK.1 hr;let ⟨h1,h2⟩:=this;have e:i=j:=by simpa using h2
   subst e;exact hj
 ·rw[oe] at h;cases hr:P.funcs.toList[i]? with
  |none=>rw[hr] at h;cases h
  |some f=>
   rw[hr] at h;have hf:f=x:=by simpa using h
   subst hf;have hm:f∈P.funcs.toList:=bU hr;have hp:P.funcs[i]? =V f:=by simpa using hr
   refine ⟨hp,j1.1 h0 f hm,?_⟩;cases hb:HX f with
   |true=>exact .inl rfl
   |false=>
    have:=Uw (e:=e) (P.funcs.toList.map HX) 0 i h1 (by rw[oe,hr];simp[hb])
    have ei:i=e:=by omega
    subst ei;rw[hp] at he;cases he;exact .inr ⟨h2,h3⟩
end Go.bL
section
namespace Go.bL
open Go.RowKit
variable {x y c:Code} {ops:eY} {i new nx' nx:Nat} {o:Oper} {v:SV} {us:hJ} {k:FuncId} {fn:Func} {H:Hf}
structure MS where
 T:Tf
 H:Hf
 nx:Nat
structure Now (E:Env) (nt:Nat) (g:Gh) (m:MS) (a:Act) (w:World):Prop where
 env:fR E g
 fr:FR g nt m.T a.tmps
 hr:HR g m.H w
 fresh:∀x,m.nx<=x->g.O x=G
structure ya (g:Gh) (m:MS) (w:World) (a:Act) (g':Gh) (m':MS) (w':World) (a':Act):Prop where
 fr:Fr g m.H w g' m'.H w'
 df:a'.defers=a.defers
 ro:∀x,x<m.nx->g'.O x=g.O x
 nx:m.nx<=m'.nx
variable {E:Env} {nt:Nat} {g g1 g2:Gh} {m m1 m2:MS} {a a1 a2:Act} {w w1 w2:World} {e:Ex}
def ya.refl:ya g m w a g m w a:=⟨Fr.refl _ _ _,rfl,λ_ _=>rfl,cS _⟩
def ya.trans (h:ya g m w a g1 m1 w1 a1) (k:ya g1 m1 w1 a1 g2 m2 w2 a2):ya g m w a g2 m2 w2 a2:=
 ⟨h.fr.trans k.fr,k.df.trans h.df,λx hx=>(k.ro x (Bv hx h.nx)).trans (h.ro x hx),kP h.nx k.nx⟩
def gu (E:Env) (nt:Nat) (c:Code) (m:MS) (e:Ex) (m':MS):Prop:=codeOk c=M->∀(ro:cB) (k:Nat) (g:Gh) (a:Act) (w:World) (Q:Exit->Act->World->Prop),Now E nt g m a w->
 (∀g' a' w' x,ExR g' e x->Now E nt g' m' a' w'->ya g m w a g' m' w' a'->Q x a' w')->wpX (wV ro) k E.P c Q a w
namespace gu
def skip:gu E nt .skip m .normal m:=λ_ _ _ _ _ _ _ n h=>wpIn_skip (h _ _ _ _ .normal n .refl)
def exit {id:Nat}:gu E nt (.exit id) m (.exit id) m:=λ_ _ _ _ _ _ _ n h=>wpIn_exit (h _ _ _ _ (.exit id) n .refl)
def ret:gu E nt .ret m .ret m:=λ_ _ _ _ _ _ _ n h=>wpIn_ret (h _ _ _ _ .ret n .refl)
def seq (h1:gu E nt x m .normal m1) (h2:gu E nt y m1 e m2):gu E nt (.seq x y) m e m2:=λok ro k g a w Q n h=>
 wpIn_seq (sW (h1 (okL ok) ro k g a w _ n λg1 a1 w1 x hx n1 t1=>by
  cases hx;exact sW (h2 (okR ok) ro k g1 a1 w1 Q n1 λg2 a2 w2 y hy n2 t2=>h g2 a2 w2 y hy n2 (t1.trans t2))))
def avU (he:tU e=B) (h1:gu E nt x m e m1):gu E nt (.seq x y) m e m1:=λok ro k g a w Q n h=>
 wpIn_seq (sW (h1 (okL ok) ro k g a w _ n λg1 a1 w1 x hx n1 t1=>by
  have:=h g1 a1 w1 x hx n1 t1;cases hx<;>first|exact this|cases he))
def cond {c:C'} {b:Bool} (hc:dt m.T c=V (.bool b)) (h1:gu E nt (aS b x y) m e m1):gu E nt (.cond c x y) m e m1:=λok ro k g a w Q n h=>by
 have hv:a.eval c= .bool b:=by
  have:=tG n.fr hc;generalize a.eval c=v at this;cases this;rfl
 have ok:(codeOk x&&codeOk y)=M:=ok;rw[bJ] at ok;cases b
 ·exact wpIn_cond_false hv (sW (h1 ok.2 ro k g a w Q n h))
 ·exact wpIn_cond_true hv (sW (h1 ok.1 ro k g a w Q n h))
def block {id:Nat} (h1:gu E nt c m e m1):gu E nt (.block id c) m (leave id e) m1:=λok ro k g a w Q n h=>
 wpIn_block (sW (h1 ok ro k g a w _ n λg1 a1 w1 x hx n1 t1=>by
  have key:∀y,ExR g1 (leave id e) y->Q y a1 w1:=λy hy=>h g1 a1 w1 y hy n1 t1
  cases hx with
  |normal=>exact key _ .normal
  |ret=>exact key _ .ret
  |z6 hv=>exact key _ (.z6 hv)
  |exit i=>
   rw[TL] at key;show (if i=id then Q .normal a1 w1 else Q (.exit i) a1 w1)
   split
   ·rename_i hi;rw[aF hi] at key;exact key _ .normal
   ·rename_i hi;rw[aC hi] at key;exact key _ (.exit i)))
def loop (h1:gu E nt c m .normal m1) (h2:gu E nt (.loop c) m1 e m2):gu E nt (.loop c) m e m2:=λok ro k g a w Q n h=>
 Cw (sW (h1 ok ro k g a w _ n λg1 a1 w1 x hx n1 t1=>by
  cases hx;exact h2 ok ro k g1 a1 w1 Q n1 λg2 a2 w2 y hy n2 t2=>h g2 a2 w2 y hy n2 (t1.trans t2)))
def aJd (he:tU e=B) (h1:gu E nt c m e m1):gu E nt (.loop c) m e m1:=λok ro k g a w Q n h=>
 Cw (sW (h1 ok ro k g a w _ n λg1 a1 w1 x hx n1 t1=>by
  have:=h g1 a1 w1 x hx n1 t1;cases hx<;>first|exact this|cases he))
end gu
structure Sr1 where
 v:SV
 D:Nat->Bool
 H:Hf
 need:Nat->Prop
 frp:Nat->Prop
 newp:Nat->Prop
structure qX (E:Env) (nt:Nat) (ops:eY) (i:Nat) (o:Oper) (m:MS) (r:Sr1) (m':MS):Prop where
 st:∀ro,Uy E ro nt ops i o m.T r.need m.H r.frp r.newp r.v r.D r.H
 T:m'.T=eN m.T o.dst r.v
 H:m'.H=sm r.D r.H m.H
 nx:m.nx<=m'.nx
def lT (E:Env) (nt:Nat) (ops:eY) (i:Nat) (m m':MS):Prop:=∀(ro:cB) (k:Nat) (g:Gh) (a:Act) (w:World) (Q:Exit->Act->World->Prop),Now E nt g m a w->
 (∀g' a' w',Now E nt g' m' a' w'->ya g m w a g' m' w' a'->Q .normal a' w')->wpOpsIn (wV ro) k E.P ops Q (List.range' i (ops.size-i)) a w
def lT.nil:lT E nt ops ops.size m m:=λro k g a w Q n h=>by
 rw[rF];exact h g a w n .refl
def lT.cons {ops:eY} {i:Nat} {o:Oper} {r:Sr1} (hi:ops[i]? =V o) (h1:qX E nt ops i o m r m1) (hf:∀x,r.frp x->m.nx<=x) (hn:∀x,r.newp x->m.nx<=x/\x<m1.nx) (h2:lT E nt ops (i+1) m1 m2):lT E nt ops i m m2:=λro k g a w Q n h=>by
 have dz:i<ops.size:=by
  by_cases hc:i<ops.size
  ·exact hc
  ·rw[Ht (by omega)] at hi;cases hi
 rw[show ops.size-i=(ops.size-(i+1))+1 by omega,Bu,wpOpsIn_cons]
 refine h1.st ro k g m.H m.T a w _ Q n.env n.fr n.hr (λ_ _=>rfl) (λ_ _=>rfl) (λx hx=>n.fresh x (hf x hx)) λv w' g' q1 q2 q3 q4=> ?_
 rw[<-h1.T] at q1;rw[<-h1.H] at q2 q3;have h1n:=h1.nx;refine h2 ro k g' (a.put o.dst v) w' Q ⟨n.env.mono q3.le,q1,q2,λx hx=> ?_⟩ λg2 a2 w2 n2 t2=>h g2 a2 w2 n2 (ya.trans ⟨q3,put_defers _ _ _,λx hx=>q4 x λhc=> ?_,h1n⟩ t2)
 ·rw[q4 x (λhc=>by have:=hn x hc;omega)]
  exact n.fresh x (by omega)
 ·have:=hn x hc;omega
def gu.region {id:Nat} (h1:lT E nt ops 0 m m1):gu E nt (.region id ops B) m .normal m1:=λok ro k g a w Q n h=>wpIn_region (by
 have:=h1 ro k g a w Q n λg' a' w' n' t'=>h g' a' w' _ .normal n' t'
 simpa[LL] using this)
def qX.op (hi:ops[i]? =V o) (hw:kq ops.toList o m.T=V M) (hd:nA nt o.dst=M) (ho:ux E o.op m.T m.H new=V (v,us)) (hH:m.H new=G) (hn:m.nx<=nx'):
  qX E nt ops i o m ⟨v,abF us new,hZ m.H us,λx=>x∈O6 o.op m.T,λx=>x=new,λx=>x=new/\us≠ []⟩ ⟨eN m.T o.dst v,hZ m.H us,nx'⟩:=by
 refine ⟨λro=>alp hi hw hd ho hH (λx=>by simp[abF]) (arM ho),rfl,?_,hn⟩
 funext x;show hZ m.H us x=sm (abF us new) (hZ m.H us) m.H x;unfold sm abF;by_cases h1:x∈us.map (·.1)
 ·rw[aF (by simp only[j2];exact .inl h1)]
 ·rw[LX h1];split<;>rfl
def qX.skip (hi:ops[i]? =V o) (hw:kq ops.toList o m.T=V B) (hd:nA nt o.dst=M) (hH:m.H new=G):
  qX E nt ops i o m ⟨.dq [],λx=>U (x=new),m.H,λ_=>False,λx=>x=new,λ_=>False⟩ ⟨eN m.T o.dst (.dq []),m.H,m.nx⟩:=by
 refine ⟨λro=>step_skip hi hw hd hH (λx=>by simp),rfl,?_,cS _⟩
 funext x;show m.H x=sm _ m.H m.H x;unfold sm;split<;>rfl
class K7 (E:Env):Prop where
 fn:∀k fn,E.fn.get k=V fn->E.P.funcs[k]? =V fn/\arp fn=M
def gu.sem [hS:K7 E] {fi aa ca vs:bf} (MW:E.fn.get k=V fn) (TX:fn.body=V c) (hnum:MH fn.name=B) (hlen:(fi++aa++ca).length<=fn.ntmps) (he:aGH e=V G) (h1:gu E fn.ntmps c ⟨(setArgs (fi++aa++ca) 0 .nil).get,H,nx⟩ e m1) (hr:AA E m1.T m1.H fn.results.toList=V vs):rE E B (.fn (.func k) fi ca) aa H nx (oneOf vs) m1.H m1.nx:=λm g w u us hE hhr nN hu oA=>by
 cases hu with
 | @fn _ first kz _ _ ED Ie=>
 obtain ⟨hPf,qe⟩:=hS.fn k fn MW;have Bl:nD g (first.toList++us++kz.toList) (fi++aa++ca):=(ED.append oA).append Ie
 have xV:first++us.toArray++kz=(first.toList++us++kz.toList).toArray:=by apply Bt;simp
 have hokc:codeOk c=M:=by
  have qe: @Option.rec Code (λ_=>Bool) M codeOk fn.body=M:=qe
  rw[TX] at qe;exact qe
 refine ⟨{target:=.fn (.func k) kz,args:=first++us.toArray},rfl,.inl ⟨k,first++us.toArray++kz,?_,?_⟩⟩
 ·show (callFunc k (first++us.toArray++kz)).run E.P w=_
  rcases y7 hPf (by rw[TX];rfl) (first++us.toArray++kz) w with ⟨_,hc⟩|hc
  ·rw[hc] at hnum;exact absurd hnum (by decide)
  ·exact hc
 rw[xV];refine callsIn_of_wp_marks (F:=Fence.wide) hPf TX trivial (sW (F:=wV G) ?_);refine h1 hokc G m g {tmps:=_,defers:= []} w _ ⟨hE,FR.args Bl hlen,hhr,nN⟩ λg1 a1 w1 x hx n1 t1=> ?_
 have fin:LeavesInM Fence.wide m E.P fn a1.tmps (λe w'=>∃r,e=abR B r/\∃g',VR g' r (oneOf vs)/\HR g' m1.H w'/\Fr g H w g' m1.H w'/\(∀x,x<nx->g'.O x=g.O x)/\∀x,m1.nx<=x->g'.O x=G) a1.defers .returning w1:=by
  rw[t1.df];obtain ⟨v,ED,Ie⟩:=afV n1.env n1.hr n1.fr hr;exact ⟨v,ED,v,rfl,g1,Ie,n1.hr,t1.fr,t1.ro,n1.fresh⟩
 cases hx with
 |normal=>exact fin
 |ret=>exact fin
 |exit id=>cases he
 |z6 hv=>cases he
end Go.bL
end
namespace Go.bL
variable {e t src:ll} {n off n' l K k j sz new:Nat} {a x ox it:C'} {p:ll×bf} {o:A SO} {svs vs xs R ws:bf} {v u w:SV} {P:E'} {J γ:Type} {i:TI} {z mx:Bool} {d c1:cB} {lo:A C'} {fs:bP} {q:(C'×C')×ll×ll} {fn:Nat->Nat} {ms:iC}
section
variable {s Rp K':Nat} {c:Cp}
inductive AV where
 |lit (v:SV)
 |sl (m e s n:Nat) (Q:List (List AV))
 |kH (cs:List AV)
 |agg (cs:List AV)
 |dq (cs:List AV)
 |fn (f:FuncId) (first kz:List AV)
 |el (K s j f:Nat)
 |ms (K s lo n:Nat)
 |mp (K:Nat)
 |it (K:Nat)
 |undef
 deriving Inhabited
abbrev AV.bool (b:Bool):AV:=.lit (.bool b)
abbrev AV.int (k:KH) (n:Int):AV:=.lit (.int k (.lit n))
abbrev AV.str (s:Z):AV:=.lit (.str s)
abbrev AV.cr:AV:=.lit .cr
abbrev AV.vN:AV:=.lit .vN
abbrev AV.pT:AV:=.lit .pT
abbrev AV.vf:AV:=.lit .vf
abbrev AV.slice (e s n:Nat) (Q:List (List AV)):AV:=.sl 0 e s n Q
abbrev AV.sln (e s n:Nat) (Q:List (List AV)):AV:=.sl 1 e s n Q
abbrev AV.sy (e s n:Nat) (Q:List (List AV)):AV:=.sl 2 e s n Q
abbrev AV.slf (e s n:Nat) (Q:List (List AV)):AV:=.sl 3 e s n Q
abbrev AV.loc (K f:Nat):AV:=.el K 0 0 f
inductive Sh where
 |d
 |o (x:Bool) (l:List Sh)
inductive Bx where
 |flat (e:ll) (cs:List AV)
 |bY (z:Bool) (e s:Nat) (l:List Sh) (Q:List (List AV)) (o:List (Nat×AV))
 |map (es:List (AV×AV))
 |iter (s:ByteArray) (pos:Nat)
 deriving Inhabited
abbrev bz:=List (List AV)
abbrev zty13_:=Nat->List Nat
abbrev cZ:=List (Nat×Bx)
abbrev fq:=List (Nat×AV)
abbrev bc:=List AV
abbrev ep:=List Sh
abbrev Bx.rows (z:Bool) (e s:Nat) (Q:bz):Bx:=.bY z e s [] Q []
abbrev Bx.tree (e s:Nat) (l:ep) (Q:bz) (o:fq):Bx:=.bY B e s l Q o
def y5 (x:Bool) (e s n:Nat) (Q:bz):AV:=.sl (aS x 2 0) e s n Q
structure GK where
 n:Nat
 c:Cp
 b:Bool
abbrev Gb:=Nat->GK
def lU:Gb:=λ_=>⟨0,.k 0,B⟩
abbrev Ow:=List (Nat×SO)
def ajD (e:ll) (n:Nat):Cp->Prop
 | .u e'=>e'=e
 | .k m=>n<=m
def zQ (e:ll) (s n len:Nat):Cp->Prop
 | .u e'=>e'=e/\n*s<=len
 | .k m=>n<=m/\len=m*s
def aoj {e len:Nat} (hc:zQ e s n len c):ajD e n c:=by
 cases c<;>exact hc.1
def oU {e len:Nat} (hc:zQ e s n len c):n*s<=len:=by
 cases c with
 |k m=>rw[hc.2];exact jn _ hc.1
 |u e'=>exact hc.2
mutual
inductive VA (F:Hf):Gb->SV->AV->Prop
 |lit {g:_} (v:_):VA F g v (.lit v)
 |nil {g:_} (m e s:_):VA F g .cr (.sl m e s 0 [])
 |sle {g:_} (e s:_):VA F g .sle (.sl 2 e s 0 [])
 |sl {g m id off c e s n Q e' svs:_} (hn:Q.length=n) (hF:jy (F id) off (n*s)=V (e',svs)) (hc:ajD e n c) (hm:(m=1->Q≠ [])/\(m=3->c= .k n)) (hu:∀r∈Q,r.length=s) (hl:off+n*s<=svs.length) (h:dK F lU ((svs.drop off).take (n*s)) Q.flatten):VA F g (.sl id off n c) (.sl m e s n Q)
 |kH {g id off cs e svs:_} (hF:jy (F id) off cs.length=V (e,svs)) (hl:off+cs.length<=svs.length) (h:dK F lU ((svs.drop off).take cs.length) cs):VA F g (.ptr id off) (.kH cs)
 |agg {g cs xs:_} (h:dK F g cs xs):VA F g (.agg cs) (.agg xs)
 |dq {g cs xs:_} (h:dK F g cs xs):VA F g (.dq cs) (.dq xs)
 |fn {g:_} (f:_) {a c xs ys:_} (h1:dK F g a xs) (h2:dK F g c ys):VA F g (.fn (.func f) a c) (.fn f xs ys)
 |el {g:_} (K s j f:_) (hb:(g K).b=M):VA F g (.ptr (g K).n (j*s+f)) (.el K s j f)
 |sA {g K:_} (s:_) (hb:(g K).b=B):VA F g .cr (.ms K s 0 0)
 |ms {g K:_} (s lo n:_) (hb:(g K).b=M):VA F g (.sl (g K).n (lo*s) n (Ai (g K).c lo)) (.ms K s lo n)
 |zb {g K:_} (s lo:_) (hl:0<lo):VA F g .sle (.ms K s lo 0)
 |mp {g:_} (K:_):VA F g (.mp (g K).n) (.mp K)
 |it {g:_} (K:_):VA F g (.ptr (g K).n 0) (.it K)
 |undef {g:_} (v:_):VA F g v .undef
inductive dK (F:Hf):Gb->bf->bc->Prop
 |nil {g:_}:dK F g [] []
 |cons {g v x vs xs:_} (h:VA F g v x) (t:dK F g vs xs):dK F g (v::vs) (x::xs)
end
def od (F F':Hf):Prop:=∀id o,F id=V o->F' id=V o
def od.refl (F:Hf):od F F:=λ_ _ h=>h
def od.trans {a b c:Hf} (h:od a b) (k:od b c):od a c:=λid o q=>k id o (h id o q)
def xw {F F':Hf} (hF:od F F') {id:Nat} (q:jy (F id) off n=V p):jy (F' id) off n=V p:=by
 cases hf:F id with
 |none=>rw[hf] at q;cases q
 |some o=>rw[hF id o hf,<-hf];exact q
def aay {F:Hf} {id:Nat} (q:jy (F id) off n=V p):∃o,F id=V o:=by
 cases hf:F id with
 |none=>rw[hf] at q;cases q
 |some o=>exact ⟨o,rfl⟩
def tN (h:o=V (.cells e svs)):jy o off n=V (e,svs):=by rw[h];rfl
def Ni:∀{cs:bf},(∀(j:Nat) (x:SV),cs[j]? =V x->Ly x=B)->xv cs=M
 | [],_=>rfl
 |y::cs,h=>by
  show aS (Ly y) B (xv cs)=M;rw[cI,aC (by rw[h 0 y rfl];decide)]
  exact Ni λj x hx=>h (j+1) x hx
def wP (h:jy o off n=V p) (h1:off<=Rp) (h2:Rp+n'<=off+n):jy o Rp n'=V p:=by
 cases o with
 |none=>cases h
 |some x=>cases x with
  |ro cs=>
   obtain ⟨hd,hx⟩:=aZ (show aS (xv ((cs.drop off).take n)) (V (0,cs)) G=V p from h);show aS (xv ((cs.drop Rp).take n')) (V (0,cs)) G=V p;rw[cI,aF (Ni λj x hj=> ?_)]
   ·exact hx
   ·rw[fw] at hj;split at hj
    ·rw[fh] at hj;refine Kv hd (j:=Rp-off+j) ?_;rw[fw,aF (by omega),fh,show off+(Rp-off+j)=Rp+j by omega]
     exact hj
    ·cases hj
  |_=>exact h
mutual
def kU:AV->bP
 | .agg cs=>lN cs
 | .dq cs=>lN cs
 | .fn _ a c=>lN a++lN c
 | .el K _ _ _=> [K]
 | .ms K _ _ _=> [K]
 | .mp K=> [K]
 | .it K=> [K]
 |_=> []
def lN:bc->bP
 | []=> []
 |x::l=>kU x++lN l
end
mutual
def GS (f:Nat->Nat):AV->AV
 | .agg cs=>.agg (vq f cs)
 | .dq cs=>.dq (vq f cs)
 | .fn i a c=>.fn i (vq f a) (vq f c)
 | .el K s j i=>.el (f K) s j i
 | .ms K s lo n=>.ms (f K) s lo n
 | .mp K=>.mp (f K)
 | .it K=>.it (f K)
 |x=>x
def vq (f:Nat->Nat):bc->bc
 | []=> []
 |x::l=>GS f x::vq f l
end
mutual
def O5:∀x:AV,GS (λk=>k) x=x
 | .agg cs=>bH AV.agg (xK cs)
 | .dq cs=>bH AV.dq (xK cs)
 | .fn i a c=>by show AV.fn i (vq _ a) (vq _ c)=_;rw[xK a,xK c]
 | .el .. | .ms .. | .mp _| .it _| .lit _| .sl .. | .kH _| .undef=>rfl
def xK:∀l:bc,vq (λk=>k) l=l
 | []=>rfl
 |x::l=>by show GS _ x::vq _ l=_;rw[O5 x,xK l]
end
variable {F F':Hf} {g g':Gb} {f:Nat->Nat}
mutual
def VA.map (hF:od F F'):∀{g v x},VA F g v x->∀{g':Gb} {f:Nat->Nat},(∀k∈kU x,g' (f k)=g k)->VA F' g' v (GS f x)
 |_,_,_,.lit v,_,_,_=>.lit v
 |_,_,_,.nil m e s,_,_,_=>.nil m e s
 |_,_,_,.sle e s,_,_,_=>.sle e s
 |_,_,_,.sl hn q hc hm hu hl h,_,_,_=>.sl hn (xw hF q) hc hm hu hl (h.mono hF)
 |_,_,_,.kH q hl h,_,_,_=>.kH (xw hF q) hl (h.mono hF)
 |_,_,_,.agg h,_,_,k=>.agg (h.map hF k)
 |_,_,_,.dq h,_,_,k=>.dq (h.map hF k)
 |_,_,_,.fn i h1 h2,_,_,k=>.fn i (h1.map hF λj hj=>k j (iu _ hj)) (h2.map hF λj hj=>k j (jo _ hj))
 |_,_,_,.el K s j i hb,_,f,k=>by have e:=k K (by simp[kU]);rw[<-e] at hb ⊢;exact .el (f K) s j i hb
 |_,_,_,.sA s hb,_,_,k=>.sA s (by rw[k _ (by simp[kU])];exact hb)
 |_,_,_,.ms (K:=K) s lo n hb,_,f,k=>by have e:=k K (by simp[kU]);rw[<-e] at hb ⊢;exact .ms s lo n hb
 |_,_,_,.zb s lo hl,_,_,_=>.zb s lo hl
 |_,_,_,.mp K,_,f,k=>by rw[<-k K (by simp[kU])];exact .mp (f K)
 |_,_,_,.it K,_,f,k=>by rw[<-k K (by simp[kU])];exact .it (f K)
 |_,_,_,.undef v,_,_,_=>.undef v
def dK.map (hF:od F F'):∀{g vs xs},dK F g vs xs->∀{g':Gb} {f:Nat->Nat},(∀k∈lN xs,g' (f k)=g k)->dK F' g' vs (vq f xs)
 |_,_,_,.nil,_,_,_=>.nil
 |_,_,_,.cons h t,_,_,k=>.cons (h.map hF λj hj=>k j (iu _ hj)) (t.map hF λj hj=>k j (jo _ hj))
def dK.mono (hF:od F F'):∀{g vs xs},dK F g vs xs->dK F' g vs xs
 |_,_,_,.nil=>.nil
 |_,_,_,.cons h t=>.cons (by have:=h.map hF (g':=_) (f:=λk=>k) λ_ _=>rfl;rwa[O5] at this) (t.mono hF)
end
def VA.same {x:AV} (h:VA F g v x) (hF:od F F') (hg:∀k∈kU x,g' k=g k):VA F' g' v x:=by
 have:=h.map hF hg;rwa[O5] at this
def VA.mono {x:AV} (hF:od F F') (h:VA F g v x):VA F' g v x:=h.same hF λ_ _=>rfl
def dK.same {xs:bc} (h:dK F g vs xs) (hF:od F F') (hg:∀k∈lN xs,g' k=g k):dK F' g' vs xs:=by
 have:=h.map hF hg;rwa[xK] at this
def awU {l:bP} (h:l.isEmpty=M) {P:Nat->Prop}:∀k∈l,P k:=λk hk=>by
 cases l with
 |nil=>cases hk
 |cons=>cases h
def dK.length:∀{vs xs},dK F g vs xs->vs.length=xs.length
 |_,_,.nil=>rfl
 |_,_,.cons _ t=>by simp[t.length]
def dK.get:∀{vs xs},dK F g vs xs->∀{j:Nat} {x:AV},xs[j]? =V x->∃v,vs[j]? =V v/\VA F g v x
 |_,_,.nil,_,_,h=>by simp at h
 |_,_,.cons h t,0,x,hx=>by simp at hx;subst hx;exact ⟨_,rfl,h⟩
 |_,_,.cons h t,j+1,x,hx=>by simp at hx;obtain ⟨v,a,b⟩:=t.get hx;exact ⟨v,by simpa using a,b⟩
def dK.append:∀{vs xs ws ys},dK F g vs xs->dK F g ws ys->dK F g (vs++ws) (xs++ys)
 |_,_,_,_,.nil,k=>k
 |_,_,_,_,.cons h t,k=>.cons h (t.append k)
def dK.drop:∀{vs xs} (n:Nat),dK F g vs xs->dK F g (vs.drop n) (xs.drop n)
 |_,_,0,h=>h
 |_,_,n+1,.nil=>by simpa using .nil
 |_,_,n+1,.cons _ t=>by simpa using t.drop n
def dK.take:∀{vs xs} (n:Nat),dK F g vs xs->dK F g (vs.take n) (xs.take n)
 |_,_,0,_=>by simpa using .nil
 |_,_,n+1,.nil=>by simpa using .nil
 |_,_,n+1,.cons h t=>by simpa using .cons h (t.take n)
def ic (xs:bc) (off:Nat) (ys:bc):bc:=xs.take off++ys++xs.drop (p8 off ys.length)
def dK.eJ {vs xs ws ys} (h:dK F g vs xs) (k:dK F g ws ys) (off:Nat):dK F g (eJ vs off ws) (ic xs off ys):=by
 have:=((h.take off).append k).append (h.drop (off+ys.length));show dK F g (vs.take off++ws++vs.drop (off+ws.length)) _;rw[k.length];exact this
mutual
inductive TC (F:Hf):Sh->SV->AV->Ow->Prop
 |d {v x:_} (q:VA F lU v x):TC F .d v x []
 |any {sh:_} (v:_):TC F sh v .undef []
 |nil {b l e s:_}:TC F (.o b l) .cr (y5 b e s 0 []) []
 |sl {b l id c svs e s n Q L:_} (hn:Q.length=n) (hu:∀r∈Q,r.length=s) (hc:zQ e s n svs.length c) (q:TR F l (svs.take (n*s)) Q L):TC F (.o b l) (.sl id 0 n c) (y5 b e s n Q) ((id,.cells e svs)::L)
inductive lB (F:Hf):ep->bf->bc->Ow->Prop
 |nil {l:_}:lB F l [] [] []
 |cons {l v vs x xs a b:_} (q:TC F (l.headD .d) v x a) (t:lB F l.tail vs xs b):lB F l (v::vs) (x::xs) (a++b)
inductive TR (F:Hf):ep->bf->bz->Ow->Prop
 |nil {l:_}:TR F l [] [] []
 |cons {l vs ws r rows a b:_} (q:lB F l vs r a) (t:TR F l ws rows b):TR F l (vs++ws) (r::rows) (a++b)
end
mutual
def TC.mono (hF:od F F'):∀{sh v x L},TC F sh v x L->TC F' sh v x L
 |_,_,_,_,.d q=>.d (q.mono hF)
 |_,_,_,_,.any v=>.any v
 |_,_,_,_,.nil=>.nil
 |_,_,_,_,.sl hn hu hc q=>.sl hn hu hc (q.mono hF)
def lB.mono (hF:od F F'):∀{l vs xs L},lB F l vs xs L->lB F' l vs xs L
 |_,_,_,_,.nil=>.nil
 |_,_,_,_,.cons q t=>.cons (q.mono hF) (t.mono hF)
def TR.mono (hF:od F F'):∀{l vs Q L},TR F l vs Q L->TR F' l vs Q L
 |_,_,_,_,.nil=>.nil
 |_,_,_,_,.cons q t=>.cons (q.mono hF) (t.mono hF)
end
def lB.length:∀{l vs xs L},lB F l vs xs L->vs.length=xs.length
 |_,_,_,_,.nil=>rfl
 |_,_,_,_,.cons _ t=>by simp[t.length]
def TR.length:∀{l vs Q L},TR F l vs Q L->(∀r∈Q,r.length=s)->vs.length=Q.length*s
 |_,_,_,_,.nil,_=>by simp
 |_,_,_,_,.cons q t,hu=>by
  rw[gf,q.length,hu _ (by simp),t.length λr hr=>hu r (dW _ hr),iU,Nat.succ_mul]
  omega
mutual
def TC.data (hF:od F F'):∀{sh v x L},TC F sh v x L->(∀p∈L,F' p.1=V p.2)->VA F' lU v x
 |_,_,_,_,.d q,_=>q.mono hF
 |_,_,_,_,.any v,_=>.undef v
 |_,_,_,_,.nil,_=>.nil _ _ _
 |_,_,_,_,@TC.sl _ b l id c svs e s n Q L hn hu hc q,hk=>.sl (m:=aS b 2 0) hn (tN (hk (id,.cells e svs) (by simp))) (aoj hc) ⟨λh=>(by cases b<;>cases h),λh=>(by cases b<;>cases h)⟩ hu (by rw[cq];exact oU hc) (by simpa using q.data hF λp hp=>hk p (dW _ hp))
def lB.data (hF:od F F'):∀{l vs xs L},lB F l vs xs L->(∀p∈L,F' p.1=V p.2)->dK F' lU vs xs
 |_,_,_,_,.nil,_=>.nil
 |_,_,_,_,.cons q t,hk=>.cons (q.data hF λp hp=>hk p (iu _ hp)) (t.data hF λp hp=>hk p (jo _ hp))
def TR.data (hF:od F F'):∀{l vs Q L},TR F l vs Q L->(∀p∈L,F' p.1=V p.2)->dK F' lU vs Q.flatten
 |_,_,_,_,.nil,_=>.nil
 |_,_,_,_,.cons q t,hk=>by
  rw[qm];exact (q.data hF λp hp=>hk p (iu _ hp)).append (t.data hF λp hp=>hk p (jo _ hp))
end
def lB.te:∀{vs xs},dK F lU vs xs->lB F [] vs xs []
 |_,_,.nil=>.nil
 |_,_,.cons h t=>.cons (l:= []) (.d h) (lB.te t)
def TR.te {s:Nat}:∀{Q:bz} {vs},(∀r∈Q,r.length=s)->dK F lU vs Q.flatten->TR F [] vs Q []
 | [],vs,_,q=>by cases q;exact .nil
 |r::Q,vs,hu,q=>by
  rw[qm] at q;have q1:=q.take r.length;have q2:=q.drop r.length;rw[W3] at q1;rw[W0] at q2;have:=TR.cons (lB.te q1) (TR.te (λr' hr=>hu r' (dW _ hr)) q2)
  rwa[yh] at this
def Bx.keys:Bx->bP
 | .flat _ cs=>lN cs
 | .bY _ _ _ _ _ o=>lN (o.map (·.2))
 |_=> []
def Bx.ja (f:Nat->Nat):Bx->Bx
 | .flat e cs=>.flat e (vq f cs)
 | .bY z e s l Q o=>.bY z e s l Q (o.map λp=>(p.1,GS f p.2))
 |b=>b
def HoA (F:Hf) (g:Gb) (svs:bf) (o:fq):Prop:=∀p∈o,∃v,svs[p.1]? =V v/\VA F g v p.2
def AZ (ms:iC) (c:Nat):Prop:=(∀n∈ms.map (·.2.2),n<c)/\(ms.map (·.2.2)).Nodup
inductive eQ (F:Hf) (g:Gb) (K:Nat):Bx->Ow->Prop
 |flat {e cs svs:_} (q:dK F g svs cs):eQ F g K (.flat e cs) [((g K).n,.cells e svs)]
 |nil {z e s l:_} (hb:(g K).b=B):eQ F g K (.bY z e s l [] []) []
 |bY {z e s l Q o svs L:_} (hb:(g K).b=M) (hz:z=M->Q≠ []) (hu:∀r∈Q,r.length=s) (hc:zQ e s Q.length svs.length (g K).c) (q:TR F l (svs.take (Q.length*s)) Q L) (ho:HoA F g svs o):eQ F g K (.bY z e s l Q o) (((g K).n,.cells e svs)::L)
 |map {es ms c:_} (hk:dK F lU (ms.map (·.1)) (es.map (·.1))) (hv:dK F lU (ms.map (·.2.1)) (es.map (·.2))) (hw:AZ ms c):eQ F g K (.map es) [((g K).n,.map ms c)]
 |iter {s pos:_}:eQ F g K (.iter s pos) [((g K).n,.qo s pos)]
def Da:∀{l:bc} {x:AV},x∈l->∀k∈kU x,k∈lN l
 |y::l,x,hx,k,hk=>(da.1 hx).elim (λe=>iu _ (e ▸ hk)) λhx=>jo _ (Da hx k hk)
def HoA.map {svs:bf} {o:fq} (h:HoA F g svs o) (hF:od F F') (hg:∀k∈lN (o.map (·.2)),g' (f k)=g k):HoA F' g' svs (o.map λp=>(p.1,GS f p.2)):=λp hp=>by
 obtain ⟨q,hq,rfl⟩:=dJ.1 hp;obtain ⟨v,h1,h2⟩:=h q hq;exact ⟨v,h1,h2.map hF λk hk=>hg k (Da (dJ.2 ⟨q,hq,rfl⟩) k hk)⟩
def eQ.mv {b:Bx} {L:Ow} (q:eQ F g K b L) (hF:od F F') (hK:g' K'=g K) (hg:∀k∈b.keys,g' (f k)=g k):eQ F' g' K' (b.ja f) L:=by
 cases q with
 |flat q=>rw[<-hK];exact .flat (q.map hF hg)
 |nil hb=>exact .nil (hK ▸ hb)
 |bY hb hz hu hc q ho=>rw[<-hK] at hb hc ⊢;exact .bY hb hz hu hc (q.mono hF) (ho.map hF hg)
 |map hk hv hw=>rw[<-hK];exact .map (hk.mono hF) (hv.mono hF) hw
 |iter=>rw[<-hK];exact .iter
def Bx.aLj (b:Bx):b.ja (λk=>k)=b:=by
 cases b with
 |flat e cs=>exact bH (Bx.flat e) (xK cs)
 |bY z e s l Q o=>
  refine bH (Bx.bY z e s l Q) ?_;rw[show (λp:Nat×AV=>(p.1,GS (λk=>k) p.2))=id from funext λp=>by rw[O5];rfl,List.map_id]
 |_=>rfl
def eQ.same {b:Bx} {L:Ow} (q:eQ F g K b L) (hF:od F F') (hK:g' K=g K) (hg:∀k∈b.keys,g' k=g k):eQ F' g' K b L:=by
 have:=q.mv hF hK hg;rwa[Bx.aLj] at this
end
section
structure LS where
 ts:fq
 bs:cZ
def lk {J:Type} (t:Nat) (l:List (Nat×J)):A J:=List.rec G (λp _ ih=>aS (iX t p.1) (V p.2) ih) l
def dD (t k:Nat) (x:J) (l:List (Nat×J)):lk t ((k,x)::l)=if t=k then V x else lk t l:=by
 show aS (iX t k) (V x) (lk t l)=_;rw[cI];by_cases h:t=k
 ·rw[aF h,aF ((beq_iff _ _).2 h)]
 ·rw[aC h,aC (λe=>h ((beq_iff _ _).1 e))]
def Eu {J g7:Type} (f:Nat->J->g7) (t:Nat):∀l:List (Nat×J),lk t (l.map λp=>(p.1,f p.1 p.2))=(lk t l).map (f t)
 | []=>rfl
 |(k,x)::l=>by
  rw[ki,dD,dD,Eu f t l];split
  ·rename_i e;subst e;rfl
  ·rfl
def pJ {J:Type} {t:Nat} {x:J}:∀{l:List (Nat×J)},lk t l=V x->(t,x)∈l
 | [],h=>by cases h
 |(k,y)::l,h=>by
  rw[dD] at h;split at h
  ·rename_i e;cases h;rw[e];exact kg
  ·exact dW _ (pJ h)
def lI {J:Type} (K:Nat) (l:List (Nat×J)):List (Nat×J):=List.rec [] (λp _ ih=>aS (iX p.1 K) ih (p::ih)) l
def xR {J:Type} (K k:Nat):∀l:List (Nat×J),lk k (lI K l)=if k=K then G else lk k l
 | []=>by split<;>rfl
 |(j,x)::l=>by
  show lk k (aS (iX j K) (lI K l) ((j,x)::lI K l))=_;rw[cI,dD];split
  ·rename_i e;obtain rfl:=(beq_iff _ _).1 e;rw[xR j k l];split<;>rfl
  ·rename_i e;have hj:j≠K:=λc=>e ((beq_iff _ _).2 c)
   rw[dD,xR K k l];by_cases hk:k=j
   ·rw[aF hk,aF hk,aC (λc=>hj (hk ▸ c))]
   ·rw[aC hk,aC hk]
variable {F F':Hf} {g g':Gb} {Y:Nat->Ow} {c:Nat->cB} {s s':LS} {T T':Tf} {H H':Hf}
structure Rel (F:Hf) (g:Gb) (Y:Nat->Ow) (c:Nat->cB) (s:LS) (T:Tf) (H:Hf):Prop where
 tm:∀t x,lk t s.ts=V x->x≠ .undef->∃v,T t=V v/\VA F g v x
 bx:∀k b,lk k s.bs=V b->eQ F g k b (Y k)/\((Y k).map (·.1)).Nodup/\∀p∈Y k,H p.1=V p.2/\c p.1=V k
 fr:∀i o,F i=V o->H i=V o/\c i=G
 cn:∀i,H i=G->c i=G
def Rel.sub (r:Rel F g Y c s T H) (h1:∀t x,lk t s'.ts=V x->lk t s.ts=V x) (h2:∀k b,lk k s'.bs=V b->lk k s.bs=V b):Rel F g Y c s' T H:=
 {r with tm:=λt x hx=>r.tm t x (h1 t x hx),bx:=λk b hb=>r.bx k b (h2 k b hb)}
def LS.put (s:LS) (d:cB) (x:AV):LS:= @Option.rec Nat (λ_=>LS) s (λd=>⟨(d,x)::s.ts,s.bs⟩) d
def Rel.put (r:Rel F g Y c s T H) (d:cB) {x:AV} (hv:x≠ .undef->VA F g v x):Rel F g Y c (s.put d x) (eN T d v) H:=by
 cases d with
 |none=>exact {r with tm:=λt y hy hn=>by simpa[eN] using r.tm t y hy hn}
 |some d=>
  refine {r with tm:=λt y hy hn=> ?_}
  rw[show (s.put (V d) x).ts=(d,x)::s.ts from rfl,dD] at hy;simp only[eN,WX];split at hy
  ·rename_i e;cases hy;exact ⟨v,by rw[aF e.symm],hv hn⟩
  ·rename_i e;rw[aC λh=>e h.symm]
   exact r.tm t y hy hn
def Rel.aqe (r:Rel F g Y c s T H) (hF:∀i o,F' i=V o->H i=V o/\c i=G) {ft:Nat->AV->AV} {fb:Nat->Bx->Bx} (h0:∀t,ft t .undef= .undef) (h1:∀t v x,lk t s.ts=V x->VA F g v x->VA F' g' v (ft t x))
  (h2:∀k b L,lk k s.bs=V b->eQ F g k b L->eQ F' g' k (fb k b) L):Rel F' g' Y c ⟨s.ts.map λp=>(p.1,ft p.1 p.2),s.bs.map λp=>(p.1,fb p.1 p.2)⟩ T H:=by
 refine ⟨λt y hy hn=> ?_,λk b hb=> ?_,hF,r.cn⟩
 ·have hy:lk t (s.ts.map λp=>(p.1,ft p.1 p.2))=V y:=hy
  rw[Eu] at hy;obtain ⟨x,hx,e⟩:=wD.1 hy;by_cases hu:x= .undef
  ·subst hu;rw[h0] at e;exact absurd e.symm hn
  ·obtain ⟨v,v1,v2⟩:=r.tm t x hx hu;exact ⟨v,v1,e ▸ h1 t v x hx v2⟩
 ·have hb:lk k (s.bs.map λp=>(p.1,fb p.1 p.2))=V b:=hb
  rw[Eu] at hb;obtain ⟨b0,qZ,rfl⟩:=wD.1 hb;obtain ⟨q,q2⟩:=r.bx k b0 qZ;exact ⟨h2 k b0 _ qZ q,q2⟩
def kS {J:Type} (Y:Nat->J) (K:Nat) (x:J):Nat->J:=λk=>if k=K then x else Y k
def LS.free (s:LS) (K:Nat):Prop:=(∀t x,lk t s.ts=V x->K∉kU x)/\∀k b,k≠K->lk k s.bs=V b->K∉b.keys
def LS.set (s:LS) (K:Nat) (b:Bx):LS:=⟨s.ts,(K,b)::s.bs⟩
def Alike (s:LS) (K:Nat) (g g':Gb):Prop:=g'=g\/(s.free K/\∀k,k≠K->g' k=g k)
def Alike.va (h:Alike s K g g') {t:Nat} {x:AV} (hx:lk t s.ts=V x) (hv:VA F g v x):VA F g' v x:=by
 rcases h with rfl|⟨h1,h2⟩
 ·exact hv
 ·exact hv.same (.refl F) λk hk=>h2 k λe=>h1.1 t x hx (e ▸ hk)
def Alike.box (h:Alike s K g g') {b:Bx} (cR:k≠K) (hb:lk k s.bs=V b) {L:Ow} (q:eQ F g k b L):eQ F g' k b L:=by
 rcases h with rfl|⟨h1,h2⟩
 ·exact q
 ·exact q.same (.refl F) (h2 k cR) λj hj=>h2 j λe=>h1.2 k b cR hb (e ▸ hj)
open Classical in
def Rel.chg (r:Rel F g Y c s T H) {b':Bx} {L':Ow} (hb:eQ F g' K b' L') (nd:(L'.map (·.1)).Nodup) (hL:∀p∈L',H' p.1=V p.2/\(c p.1=V K\/H p.1=G)) (hH:∀i,H' i≠H i->c i=V K\/H i=G) (hg:Alike s K g g'):∃c',Rel F g' (kS Y K L') c' (s.set K b') T H'/\(∀i,H i≠G->c i≠V K->c' i=c i)/\(∀i k,c' i=V k->c i=V k\/(k=K/\i∈L'.map (·.1)))/\∀i k,c i=V k->c' i=V k\/H' i=G:=by
 let c':Nat->cB:=λi=>if H' i=G then G else if i∈L'.map (·.1) then V K else c i
 have keep:∀{i o},H i=V o->c i≠V K->H' i=V o/\c' i=c i:=λ{i o} hi hc=>by
  have e:H' i=H i:=ql λhn=>(hH i hn).elim hc λh=>by rw[h] at hi;cases hi
  refine ⟨e.trans hi,?_⟩;show (if H' i=G then G else if i∈L'.map (·.1) then V K else c i)=c i
  rw[e,hi,aC (by simp),aC λhm=> ?_]
  obtain ⟨p,hp,rfl⟩:=dJ.1 hm;exact (hL p hp).2.elim hc λh=>by rw[h] at hi;cases hi
 refine ⟨c',⟨λt x hx hn=> ?_,λk b hk=> ?_,λi o hi=> ?_,λi hi=>aF hi⟩,λi hi hc=> ?_,λi k h=> ?_,λi k h=> ?_⟩
 ·obtain ⟨v,v1,v2⟩:=r.tm t x hx hn;exact ⟨v,v1,hg.va hx v2⟩
 ·rw[show (s.set K b').bs=(K,b')::s.bs from rfl,dD] at hk;unfold kS;split at hk
  ·rename_i e;cases hk;rw[aF e,e];refine ⟨hb,nd,λp hp=>⟨(hL p hp).1,?_⟩⟩
   show (if H' p.1=G then G else if p.1∈L'.map (·.1) then V K else c p.1)=V K
   rw[(hL p hp).1,aC (by simp),aF (dJ.2 ⟨p,hp,rfl⟩)]
  ·rename_i e;rw[aC e];obtain ⟨q1,q2,q3⟩:=r.bx k b hk;refine ⟨hg.box e hk q1,q2,λp hp=> ?_⟩
   obtain ⟨p1,p2⟩:=q3 p hp;obtain ⟨k1,k2⟩:=keep p1 (by rw[p2];exact λh=>e (by injection h))
   exact ⟨k1,k2.trans p2⟩
 ·obtain ⟨p1,p2⟩:=r.fr i o hi;obtain ⟨k1,k2⟩:=keep p1 (by rw[p2];simp)
  exact ⟨k1,k2.trans p2⟩
 ·obtain ⟨o,ho⟩:=uR.1 hi;exact (keep ho hc).2
 ·have h:(if H' i=G then G else if i∈L'.map (·.1) then V K else c i)=V k:=h
  split at h
  ·cases h
  ·split at h
   ·rename_i hm;exact .inr ⟨(lp h).symm,hm⟩
   ·exact .inl h
 ·show (if H' i=G then G else if i∈L'.map (·.1) then V K else c i)=V k\/_
  split
  ·rename_i e;exact .inr e
  ·left;split
   ·rename_i hm;obtain ⟨p,hp,rfl⟩:=dJ.1 hm;rcases (hL p hp).2 with e|e
    ·exact e.symm.trans h
    ·rw[r.cn _ e] at h;cases h
   ·exact h
def vS {i:Nat} {c:Nat->cB} (h:(if c i=V K then G else c i)=V K):False:=by
 split at h
 ·cases h
 ·contradiction
def Rel.sink (r:Rel F g Y c s T H) (K:Nat):∃F' c',od F F'/\((∀i k,c' i=V k->c i=V k)/\(∀i,F' i≠G->F i≠G\/c i=V K)/\(∀i,c i≠V K->c' i=c i)/\∀i,c' i≠V K)/\(∀b,lk K s.bs=V b->∀p∈Y K,F' p.1=V p.2)/\Rel F' g Y c' ⟨s.ts,lI K s.bs⟩ T H:=by
 let F':Hf:=λi=>if c i=V K then H i else F i
 have hF:od F F':=λi o ho=>by
  show (if c i=V K then H i else F i)=V o
  rw[(r.fr i o ho).2,aC (by simp)]
  exact ho
 refine ⟨F',λi=>if c i=V K then G else c i,hF,⟨λi k h=> ?_,λi h=> ?_,λi h=>aC h,λi h=>vS h⟩,λb hb p hp=> ?_,λt x hx hn=> ?_,λk b hk=> ?_,λi o hi=> ?_,λi hi=> ?_⟩
 ·dsimp only at h;split at h
  ·cases h
  ·exact h
 ·have h:(if c i=V K then H i else F i)≠G:=h
  split at h
  ·exact .inr (by assumption)
  ·exact .inl h
 ·obtain ⟨p1,p2⟩:=(r.bx K b hb).2.2 p hp;exact (aF p2).trans p1
 ·obtain ⟨v,v1,v2⟩:=r.tm t x hx hn;exact ⟨v,v1,v2.mono hF⟩
 ·rw[xR] at hk;split at hk
  ·cases hk
  ·rename_i cR;obtain ⟨q1,q2,q3⟩:=r.bx k b hk;refine ⟨q1.same hF rfl λ_ _=>rfl,q2,λp hp=>⟨(q3 p hp).1,?_⟩⟩
   rw[(q3 p hp).2,aC λh=>cR (by injection h)]
 ·have hi:(if c i=V K then H i else F i)=V o:=hi
  split at hi
  ·rename_i e;exact ⟨hi,aF e⟩
  ·rename_i e;exact ⟨(r.fr i o hi).1,(aC e).trans (r.fr i o hi).2⟩
 ·split
  ·rfl
  ·exact r.cn i hi
structure kJ (pn:Nat->Bool) (s s':LS):Prop where
 go:∀{F g Y c T H},Rel F g Y c s T H->∃F' g' φ' c',od F F'/\(∀k,pn k=M->g' k=g k)/\Rel F' g' φ' c' s' T H
variable {pn:Nat->Bool} {s1:LS}
def kJ.refl:kJ pn s s:=.mk λr=>⟨_,_,_,_,.refl _,λ_ _=>rfl,r⟩
def kJ.trans (h:kJ pn s s1) (k:kJ pn s1 s'):kJ pn s s':=.mk λr=>
 let ⟨_,_,_,_,h1,h2,r1⟩:=h.go r
 let ⟨_,_,_,_,k1,k2,r2⟩:=k.go r1
 ⟨_,_,_,_,h1.trans k1,λj hj=>(k2 j hj).trans (h2 j hj),r2⟩
end
section
variable {F:Hf} {g g':Gb} {Y:Nat->Ow} {c:Nat->cB} {s s':LS} {T:Tf} {H:Hf} {E:Env} {pn:Nat->Bool}
variable {f:Hf->SV->gN}
def dN (ts:fq) (x:C'):AV:=
 match x with
 | .tmp t=>(lk t ts).getD .undef
 | .const v=>.lit (wO v)
 | .func f=>.fn f [] []
 | .global _=>.undef
def qP (ts:fq) (xs:List C'):bc:=xs.map (dN ts)
def tj:AV->Bool
 | .undef=>M
 |_=>B
def J1 {x:AV} (h:tj x=B):x≠ .undef:=λe=>by rw[e] at h;cases h
def rD:bc->Bool
 | []=>M
 |x::l=>aS (tj x) B (rD l)
def Rel.val (r:Rel F g Y c s T H) {y:AV} (hx:dN s.ts x=y) (hy:y≠ .undef):∃v,dt T x=V v/\VA F g v y:=by
 subst hx;cases x with
 |tmp t=>
  cases h:lk t s.ts with
  |none=>exact absurd (by show (lk t s.ts).getD .undef=_;rw[h];rfl) hy
  |some z=>
   have e:dN s.ts (.tmp t)=z:=by show (lk t s.ts).getD .undef=_;rw[h];rfl
   rw[e] at hy ⊢;exact r.tm t z h hy
 |const v=>exact ⟨_,rfl,.lit _⟩
 |func f=>exact ⟨_,rfl,.fn f .nil .nil⟩
 |global _=>exact absurd rfl hy
def Rel.gj (r:Rel F g Y c s T H):∀{xs:List C'},rD (qP s.ts xs)=M->∃vs,gj T xs=V vs/\dK F g vs (qP s.ts xs)
 | [],_=>⟨[],rfl,.nil⟩
 |x::xs,h=>by
  have h:aS (tj (dN s.ts x)) B (rD (qP s.ts xs))=M:=h;rw[cI] at h;split at h
  ·cases h
  ·rename_i hx;obtain ⟨v,v1,v2⟩:=r.val (x:=x) rfl (J1 (by simpa using hx))
   obtain ⟨vs,w1,w2⟩:=r.gj h;exact ⟨v::vs,by show cj (dt T x) (bL.gj T xs) _=_;rw[v1,w1];rfl,.cons v2 w2⟩
structure Ok (E:Env) (pn:Nat->Bool) (op:Op) (s s':LS) (x:AV) (W:bP):Prop where
 go:∀{F:Hf} {g:Gb} {Y:Nat->Ow} {c:Nat->cB} {T:Tf} {H:Hf} {new:Nat},Rel F g Y c s T H->H new=G->∃v us g' φ' c',ux E op T H new=V (v,us)/\(x≠ .undef->VA F g' v x)/\Rel F g' φ' c' s' T (hZ H us)/\(∀k,pn k=M->g' k=g k)/\
  (∀i,H i≠G->(∀K∈W,c i≠V K)->hZ H us i=H i/\c' i=c i)/\(∀u∈us,u.1=new\/∃K∈W,c u.1=V K)/\(∀i k,c i=V k->c' i=V k\/hZ H us i=G)/\(hZ H us new≠G->∃K∈W,c' new=V K)
def Ok.val {op:Op} {x:AV} (h:∀{F:Hf} {g:Gb} {Y:Nat->Ow} {c:Nat->cB} {T:Tf} {H:Hf},Rel F g Y c s T H->∃v,(∀new,ux E op T H new=V (v,[]))/\VA F g v x):Ok E pn op s s x []:=⟨λ{F g Y c T H new} r hn=>by
 obtain ⟨v,v1,v2⟩:=h r;exact ⟨v,[],g,Y,c,v1 new,λ_=>v2,r,λ_ _=>rfl,λ_ _ _=>⟨rfl,rfl⟩,λ_ hu=>(by cases hu),λ_ _ h=>.inl h,λh=>absurd hn h⟩⟩
def Ok.un {op:Op} {x y:AV} (gC:∀T H new,ux E op T H new=one T a (f H)) (ha:dN s.ts a=y) (hy:y≠ .undef) (hf:∀{F:Hf} {g:Gb} {Y:Nat->Ow} {c:Nat->cB} {T:Tf} {H:Hf} {v:SV},Rel F g Y c s T H->VA F g v y->∃u,f H v=V (u,[])/\VA F g u x):Ok E pn op s s x []:=.val λ{F g Y c T H} r=>by
 obtain ⟨v,v1,v2⟩:=r.val ha hy;obtain ⟨u,u1,u2⟩:=hf r v2;exact ⟨u,λnew=>by rw[gC,one,v1];exact u1,u2⟩
def Ok.bi {op:Op} {b:C'} {f:SV->SV->gN} {x y z:AV} (gC:∀T H new,ux E op T H new=two T a b f) (ha:dN s.ts a=y) (hy:y≠ .undef) (hb:dN s.ts b=z) (hz:z≠ .undef) (hf:∀{F:Hf} {g:Gb} {v w:SV},VA F g v y->VA F g w z->∃u,f v w=V (u,[])/\VA F g u x):Ok E pn op s s x []:=.val λ{F g Y c T H} r=>by
 obtain ⟨v,v1,v2⟩:=r.val ha hy;obtain ⟨w,w1,w2⟩:=r.val hb hz;obtain ⟨u,u1,u2⟩:=hf v2 w2;exact ⟨u,λnew=>by rw[gC,two,v1,w1];exact u1,u2⟩
def Ok.boxG {op:Op} {x:AV} {b':Bx} {s1:LS} (hs:∀{F:Hf} {g:Gb} {Y:Nat->Ow} {c:Nat->cB} {T:Tf} {H:Hf},Rel F g Y c s T H->Rel F g Y c s1 T H) (h:∀{F:Hf} {g:Gb} {Y:Nat->Ow} {c:Nat->cB} {T:Tf} {H:Hf} {new:Nat},Rel F g Y c s T H->H new=G->∃v us gk L',ux E op T H new=V (v,us)/\VA F (kS g K gk) v x/\eQ F (kS g K gk) K b' L'/\(L'.map (·.1)).Nodup/\
  (∀p∈L',hZ H us p.1=V p.2/\(c p.1=V K\/H p.1=G))/\(∀u∈us,u.1=new\/c u.1=V K)/\(gk=g K\/(pn K=B/\s1.free K))/\(hZ H us new=G\/new∈L'.map (·.1))):Ok E pn op s (s1.set K b') x [K]:=⟨λ{F g Y c T H new} r hn=>by
 obtain ⟨v,us,gk,L',v1,v2,hb,nd,hL,hu,hg,hnw⟩:=h r hn;have r:=hs r;have cu:∀i,hZ H us i≠H i->c i=V K\/H i=G:=λi hi=>by
  by_cases hm:i∈us.map (·.1)
  ·obtain ⟨u,uD,rfl⟩:=dJ.1 hm;exact (hu u uD).elim (λe=>.inr (by rw[e];exact hn)) .inl
  ·exact absurd (LX hm H) hi
 have same:gk=g K->kS g K gk=g:=λe=>funext λk=>by unfold kS;split<;>simp_all
 obtain ⟨c',r',hc,yI,hc3⟩:=r.chg hb nd hL cu (hg.elim (λe=>.inl (same e)) λhf=>.inr ⟨hf.2,λk hk=>aC hk⟩)
 refine ⟨v,us,_,_,c',v1,λ_=>v2,r',λk hk=> ?_,λi hi hW=> ?_,λu hm=>(hu u hm).imp_right λe=>⟨K,by simp,e⟩,λi k hk=>hc3 i k hk,λcR=> ?_⟩
 ·rcases hg with e|⟨e,_⟩
  ·rw[same e]
  ·exact aC λe'=>by rw[e',e] at hk;cases hk
 ·have hK:=hW K (by simp)
  exact ⟨ql λcR=>(cu i cR).elim hK hi,hc i hi hK⟩
 ·rcases hnw with h|h
  ·exact absurd h cR
  ·obtain ⟨p,hp,rfl⟩:=dJ.1 h;exact ⟨K,by simp,((r'.bx K _ (by rw[show (s1.set K b').bs=(K,b')::s1.bs from rfl,dD,aF rfl])).2.2 p (by unfold kS;rw[aF rfl];exact hp)).2⟩⟩
def Ok.box {op:Op} {x:AV} {b':Bx} (h:∀{F:Hf} {g:Gb} {Y:Nat->Ow} {c:Nat->cB} {T:Tf} {H:Hf} {new:Nat},Rel F g Y c s T H->H new=G->∃v us gk L',ux E op T H new=V (v,us)/\VA F (kS g K gk) v x/\eQ F (kS g K gk) K b' L'/\(L'.map (·.1)).Nodup/\
  (∀p∈L',hZ H us p.1=V p.2/\(c p.1=V K\/H p.1=G))/\(∀u∈us,u.1=new\/c u.1=V K)/\(gk=g K\/(pn K=B/\s.free K))/\(hZ H us new=G\/new∈L'.map (·.1))):Ok E pn op s (s.set K b') x [K]:=.boxG (λr=>r) h
def Ok.lay {op:Op} {x:AV} {b:Bx} (hp:pn K=B) (hf:s.free K) (h:∀{F:Hf} {g:Gb} {Y:Nat->Ow} {c:Nat->cB} {T:Tf} {H:Hf} {new:Nat},Rel F g Y c s T H->∃v o cp,ux E op T H new=V (v,[(new,V o)])/\
  ∀g':Gb,g' K=⟨new,cp,M⟩->(∀k,k≠K->g' k=g k)->VA F g' v x/\eQ F g' K b [(new,o)]):Ok E pn op s (s.set K b) x [K]:=.box λ{F g Y c T H new} r hn=>by
 obtain ⟨v,o,cp,v1,v2⟩:=h (new:=new) r;obtain ⟨a,b⟩:=v2 (kS g K ⟨new,cp,M⟩) (aF rfl) λk hk=>aC hk
 refine ⟨v,_,⟨new,cp,M⟩,_,v1,a,b,by simp,λp hp=> ?_,λu hu=>.inl (by rw[gg.1 hu]),.inr ⟨hp,hf⟩,.inr (by simp)⟩
 obtain rfl:=gg.1 hp;exact ⟨by simp[hZ,jB],.inr hn⟩
def Ok.wr {op:Op} {x:AV} {b b':Bx} (hb:lk K s.bs=V b) (h:∀{F:Hf} {g:Gb} {Y:Nat->Ow} {c:Nat->cB} {T:Tf} {H:Hf},Rel F g Y c s T H->∃v o o' L L',Y K=((g K).n,o)::L/\(∀new,ux E op T H new=V (v,[((g K).n,V o')]))/\
  VA F g v x/\eQ F g K b' (((g K).n,o')::L')/\L'.Sublist L):Ok E pn op s (s.set K b') x [K]:=.box λ{F g Y c T H new} r hn=>by
 obtain ⟨v,o,o',L,L',e,v1,v2,v3,hs⟩:=h r;obtain ⟨_,q2,q3⟩:=r.bx K b hb;rw[e] at q2 q3;have same:kS g K (g K)=g:=funext λk=>by unfold kS;split<;>simp_all
 have qn:=(q3 ((g K).n,o) (by simp)).2
 have nd:(((g K).n,o')::L').map (·.1)|>.Nodup:=by rw[ki,pG] at q2 ⊢;exact ⟨λh=>q2.1 ((hs.map _).subset h),(hs.map _).nodup q2.2⟩
 refine ⟨v,_,g K,((g K).n,o')::L',v1 new,by rw[same];exact v2,by rw[same];exact v3,nd,λp hp=> ?_,λu hu=>.inr (by rw[gg.1 hu];exact qn),.inl rfl,.inl ?_⟩
 rcases da.1 hp with rfl|hp
 ·exact ⟨by simp[hZ,jB],.inl qn⟩
 ·obtain ⟨p1,p2⟩:=q3 p (dW _ (hs.subset hp));refine ⟨?_,.inl p2⟩;show jB H ((g K).n,V o') p.1=_;unfold jB;rw[aC λe=> ?_]
  ·exact p1
  ·have:=(pG.1 nd).1;exact this (by have e:p.1=(g K).n:=e;exact dJ.2 ⟨p,hp,e⟩)
 ·show (if new=(g K).n then _ else H new)=G
  rw[aC λe=> ?_]
  ·exact hn
  ·have:=(q3 ((g K).n,o) (by simp)).1
   rw[e] at hn;rw[show ((g K).n,o).1=(g K).n from rfl,hn] at this;cases this
end
section
variable {F F':Hf} {g g':Gb} {Y:Nat->Ow} {c:Nat->cB} {s s':LS} {T:Tf} {H:Hf} {E:Env} {pn:Nat->Bool}
variable {f:Nat} {v':SV} {oy:C'} {dst:ll} {i2:TI}
def zc (vs:bf):bc:=vs.map .lit
def uZ:∀{vs:bf},dK F g vs (zc vs)
 | []=>.nil
 |v::vs=>.cons (.lit v) uZ
def aie (x:AV):A bc:=
 match x with
 | .agg cs=>V cs
 | .lit (.agg vs)=>V (zc vs)
 |_=>G
def ZC {x:AV} {cs:bc} (h:aie x=V cs) (hv:VA F g v x):∃vs,v= .agg vs/\dK F g vs cs:=by
 unfold aie at h;split at h
 ·cases h;cases hv with|agg q=>exact ⟨_,rfl,q⟩
 ·cases h;cases hv;exact ⟨_,rfl,uZ⟩
 ·cases h
def E3 (x:AV):A bc:=
 match x with
 | .agg cs=>V cs
 | .lit v=>ay v.cells λvs=>V (zc vs)
 | .dq _=>G
 | .undef=>G
 |x=>V [x]
def Gi {x:AV} {xs:bc} (h:E3 x=V xs) (hv:VA F g v x):∃vs,v.cells=V vs/\dK F g vs xs:=by
 unfold E3 at h;split at h
 ·cases h;cases hv with|agg q=>exact ⟨_,rfl,q⟩
 ·obtain ⟨vs,h1,h⟩:=aq h;cases h;cases hv;exact ⟨vs,h1,uZ⟩
 ·cases h
 ·cases h
 ·cases h;refine ⟨[v],?_,.cons hv .nil⟩;cases hv<;>first|rfl|simp_all
def wJ (i:TI) (cs:bc) (off:Nat):A AV:=
 aS (nq i.desc) (aS (kN (p8 off i.size) cs.length) (V (.agg ((cs.drop off).take i.size))) G) (cs[off]?)
def yz {cs:bc} {x:AV} (q:dK F g vs cs) (hx:wJ i cs off=V x):∃v,jr i vs off=V v/\VA F g v x:=by
 unfold wJ at hx;unfold jr;rw[cI] at hx ⊢;split at hx
 ·rename_i ha;rw[aF ha];obtain ⟨hl,hx⟩:=aZ hx;cases hx;rw[q.length,cI,aF hl];exact ⟨_,rfl,.agg ((q.drop off).take i.size)⟩
 ·rename_i ha;rw[aC ha];exact q.get hx
def agm (h:jr i ((svs.drop off).take n) 0=V u) (hl:off+n<=svs.length):jr i svs off=V u:=by
 unfold jr at h ⊢;rw[cI] at h ⊢;split at h
 ·rename_i ha;rw[aF ha];obtain ⟨hle,hu⟩:=aZ h;have hle:0+i.size<=((svs.drop off).take n).length:=(bN _ _).1 hle;rw[dE,jq] at hle;cases hu;rw[cI,aF (show kN (p8 off i.size) svs.length=M from (bN _ _).2 (show off+i.size<=svs.length by omega))]
  rw[pF,lX,fu (by omega)]
 ·rename_i ha;rw[aC ha];rw[fw] at h;split at h
  ·rw[fh] at h;simpa using h
  ·cases h
def aIe {cs:bc} {x:AV} (h:wJ i cs 0=V x):wide i<=cs.length:=by
 unfold wJ at h;unfold wide;rw[cI] at h ⊢;split at h
 ·rename_i hg;rw[aF hg];have:=(bN _ _).1 (aZ h).1;rwa[show p8 0 i.size=i.size from cq _] at this
 ·rename_i hg;rw[aC hg];have:=(bK.1 h).1;omega
def Io (E:Env) (s:ll) (f:Nat):A (Nat×TI):=ay (E.ty.get s) λi=>ay (Aj i.desc) λfs=>ay (fs[f]?) λfl=>ay (E.ty.get fl.type) λfi=>V (fl.off,fi)
def M9 {p:Nat×TI} (hf:Io E t f=V p):∃i fs fl,E.ty.get t=V i/\Aj i.desc=V fs/\fs[f]? =V fl/\E.ty.get fl.type=V p.2/\fl.off=p.1:=by
 obtain ⟨i,hi,hf⟩:=aq hf;obtain ⟨fs,hfs,hf⟩:=aq hf;obtain ⟨fl,EK,hf⟩:=aq hf;obtain ⟨fi,hfi,hf⟩:=aq hf;cases hf;exact ⟨i,fs,fl,hi,hfs,EK,hfi,rfl⟩
def ayF (p:Nat×TI) (x:AV):A AV:=
 aS (kN 1 p.2.size) (match x with
  | .el K s j f=>V (.el K s j (p8 f p.1))
  | .kH cs=>aS (kN p.1 cs.length) (V (.kH (cs.drop p.1))) G
  |_=>G) G
def aBz {id:Nat} {cs:bc} (q:VA F g (.ptr id off) (.kH cs)) (hk:k<=cs.length):VA F g (.ptr id (off+k)) (.kH (cs.drop k)):=by
 cases q with
 |kH hF hl hv=>
  refine .kH (wP hF (by omega) (by rw[jq];omega)) (by rw[jq];omega) ?_
  have:=hv.drop k;rw[wx,sS] at this;rw[jq];exact this
def aCu {p:Nat×TI} {x y:AV} (hp:Io E t f=V p) (hx:ayF p y=V x) (hv:VA F g v y):∃u,sj E t f v=V (u,[])/\VA F g u x:=by
 obtain ⟨i,fs,fl,e1,e2,e3,e4,e5⟩:=M9 hp;obtain ⟨oQ,hx⟩:=aZ hx;have key:∀id off,sj E t f (.ptr id off)=V (SV.ptr id (p8 off p.1),[]):=λid off=>by
  unfold sj;rw[e1];show ay (Aj i.desc) _=_;rw[e2];show ay (fs[f]?) _=_;rw[e3];show ay (E.ty.get fl.type) _=_;rw[e4];show aS (kN 1 p.2.size) (V (SV.ptr id (p8 off fl.off),[])) G=_;rw[oQ,e5]
 split at hx
 ·cases hx;cases hv;refine ⟨_,key _ _,?_⟩;rw[show p8 (_+_) p.1=_+p8 _ p.1 from gL _ _ _];exact .el _ _ _ _ (by assumption)
 ·obtain ⟨hk,hx⟩:=aZ hx;cases hx;have FZ:∃id off,v=SV.ptr id off:=by cases hv;exact ⟨_,_,rfl⟩
  obtain ⟨id,off,rfl⟩:=FZ;exact ⟨_,key _ _,aBz hv ((bN _ _).1 hk)⟩
 ·cases hx
def aCt {p:Nat×TI} {cs:bc} {x:AV} (hp:Io E t f=V p) (q:dK F g vs cs) (hx:wJ p.2 cs p.1=V x):∃u,DK E t f (.agg vs)=V (u,[])/\VA F g u x:=by
 obtain ⟨i,fs,fl,e1,e2,e3,e4,e5⟩:=M9 hp;obtain ⟨u,u1,u2⟩:=yz q hx;refine ⟨u,?_,u2⟩;unfold DK;rw[e1];show ay (Aj i.desc) _=_;rw[e2];show ay (fs[f]?) _=_;rw[e3];show ay (E.ty.get fl.type) _=_;rw[e4];show same (jr p.2 vs fl.off)=_;rw[e5,u1];rfl
def Pe {id:Nat} (hi:E.ty.get t=V i) (hh:jy (H id) off (wide i)=V (e,svs)) (hu:jr i svs off=V u):same (rR E H t (.ptr id off))=V (u,[]):=by
 unfold rR;show same (ay (E.ty.get t) λi=>ay (jy (H id) off (wide i)) λp=>jr i p.2 off)=_
 rw[hi];show same (ay (jy (H id) off (wide i)) λp=>jr i p.2 off)=_
 rw[hh];show same (jr i svs off)=_;rw[hu];rfl
def VA.tf {x:AV} (q:VA F g v x) (hk:(kU x).isEmpty=M):VA F g' v x:=q.same (.refl F) (awU hk)
def dK.tf {v:bf} {x:bc} (q:dK F g v x) (hk:(lN x).isEmpty=M):dK F g' v x:=q.same (.refl F) (awU hk)
def zer {J:Type} (j:Nat) (x:A J):A J:=match j with|0=>x|_=>G
def adK {x:A J} {y:J} (h:zer j x=V y):j=0/\x=V y:=by
 cases j with
 |zero=>exact ⟨rfl,h⟩
 |succ j=>cases h
def JY (i:TI) (bs:cZ):AV->A AV
 | .kH cs=>ay (wJ i cs 0) λx=>aS (kU x).isEmpty (V x) G
 | .el K _ j off=>
  (match lk K bs with
  |some (.flat _ cs)=>zer j (wJ i cs off)
  |_=>G)
 |_=>G
def Rel.flat (r:Rel F g Y c s T H) {K:Nat} {e:ll} {cs:bc} (hb:lk K s.bs=V (.flat e cs)):∃svs,Y K= [((g K).n,.cells e svs)]/\dK F g svs cs/\H (g K).n=V (.cells e svs):=by
 obtain ⟨q,_,q3⟩:=r.bx K _ hb;generalize Y K=L at q q3;cases q with
 | @flat e cs svs q=>exact ⟨svs,rfl,q,(q3 ((g K).n,.cells e svs) (by simp)).1⟩
def anH {x y:AV} (hi:E.ty.get t=V i) (hx:JY i s.bs y=V x) (r:Rel F g Y c s T H) (hv:VA F g v y):∃u,same (rR E H t v)=V (u,[])/\VA F g u x:=by
 unfold JY at hx;split at hx
 ·obtain ⟨x',hx,qz⟩:=aq hx;obtain ⟨hk,qz⟩:=aZ qz;cases qz;cases hv with
  |kH hF hl hv=>
  obtain ⟨u,u1,u2⟩:=yz hv hx;exact ⟨u,Pe hi (wP (xw (λi o h=>(r.fr i o h).1) hF) (cS _) (Nat.add_le_add_left (aIe hx) _)) (agm u1 hl),u2.tf hk⟩
 ·split at hx
  ·rename_i e cs hb;obtain ⟨rfl,hx⟩:=adK hx;cases hv;obtain ⟨svs,_,q,hH⟩:=r.flat hb;obtain ⟨u,u1,u2⟩:=yz q hx;exact ⟨u,by rw[ng,cq];exact Pe hi (tN hH) u1,u2⟩
  ·cases hx
 ·cases hx
def binL:S'->KH->Int->Int->A AV
 | .add,k,m,n=>V (.int k (k.wrap (m+n)))
 | .sub,k,m,n=>V (.int k (k.wrap (m-n)))
 | .mul,k,m,n=>V (.int k (k.wrap (m*n)))
 | .eql,_,m,n=>V (.bool (U (m=n)))
 | .neq,_,m,n=>V (.bool (!U (m=n)))
 | .lss,_,m,n=>V (.bool (U (m<n)))
 | .leq,_,m,n=>V (.bool (!U (n<m)))
 | .gtr,_,m,n=>V (.bool (U (n<m)))
 | .geq,_,m,n=>V (.bool (!U (m<n)))
 | .shr,k,m,n=>aS (U (n=1)) (V (.int k (m.fdiv 2))) G
 |_,_,_,_=>G
def Rz {k k':KH} (h:iD k k'=M):k=k':=by cases k<;>cases k'<;>first|rfl|cases h
def VA.of_eq (h:v=v'):VA F g v (.lit v'):=h ▸ .lit v
def aJF {op:S'} {k:KH} {m n:Int} {x:AV} (hx:binL op k m n=V x):∃v,azc E op t k (.lit m) (.int k (.lit n))=V v/\VA F g v x:=by
 have kk:=aqJ k;cases op<;>first|(cases hx;done)|skip
 case shr=>
  obtain ⟨hn,hx⟩:=aZ hx;obtain rfl:n=1:=by simpa using hn
  cases hx;exact ⟨.int k (.lit (m.fdiv 2)),by cases k<;>rfl,.lit _⟩
 case add=>cases hx;exact ⟨_,by show aS (iD k k) (V (SV.int k (aif k (.lit m) (.lit n)))) G=_;rw[kk];rfl,.lit _⟩
 case sub=>cases hx;exact ⟨_,by show aS (iD k k) (V (SV.int k (Q7 k (.lit m) (.lit n)))) G=_;rw[kk];rfl,.lit _⟩
 case mul=>cases hx;exact ⟨_,by cases k<;>rfl,.lit _⟩
 case eql=>cases hx;exact ⟨.bool (U (m=n)),by show aS (iD k k) (mi B (V (J4 m n))) G=_;rw[kk,DM];rfl,.lit _⟩
 case neq=>cases hx;exact ⟨.bool (!U (m=n)),by show aS (iD k k) (mi M (V (J4 m n))) G=_;rw[kk,DM];rfl,.lit _⟩
 case lss=>cases hx;exact ⟨.bool (U (m<n)),by show aS (iD k k) (mi B (V (Dd m n))) G=_;rw[kk,xT];rfl,.lit _⟩
 case leq=>cases hx;exact ⟨.bool (!U (n<m)),by show aS (iD k k) (mi M (V (Dd n m))) G=_;rw[kk,xT];rfl,.lit _⟩
 case gtr=>cases hx;exact ⟨.bool (U (n<m)),by show aS (iD k k) (mi B (V (Dd n m))) G=_;rw[kk,xT];rfl,.lit _⟩
 case geq=>cases hx;exact ⟨.bool (!U (m<n)),by show aS (iD k k) (mi M (V (Dd m n))) G=_;rw[kk,xT];rfl,.lit _⟩
def binS:S'->Z->Z->A AV
 | .eql,a,b=>V (.bool (U (a=b)))
 | .neq,a,b=>V (.bool (!U (a=b)))
 | .lss,a,b=>V (.bool (Kx a.toList b.toList))
 | .leq,a,b=>V (.bool (Kx a.toList b.toList||a.toList==b.toList))
 | .gtr,a,b=>V (.bool (!(Kx a.toList b.toList||a.toList==b.toList)))
 | .geq,a,b=>V (.bool (!Kx a.toList b.toList))
 |_,_,_=>G
def aJE {op:S'} {a b:Z} {x:AV} (hx:binS op a b=V x):∃v,azb E op t a (.str b)=V v/\VA F g v x:=by
 cases op<;>first|(cases hx;done)|skip
 ·cases hx;exact ⟨.bool (GP a b),rfl,.of_eq (by rw[yr])⟩
 ·cases hx;exact ⟨.bool (!GP a b),rfl,.of_eq (by rw[yr])⟩
 all_goals (cases hx;exact ⟨_,rfl,.lit _⟩)
def ctor:SV->Nat
 | .vN=>1
 | .ptr _ _=>2
 | .cr=>3
 | .sl _ _ _ _=>4
 | .pT=>5
 | .mp _=>6
 | .vf=>7
 | .fn _ _ _=>8
 |_=>0
def abU:AV->cB
 | .lit v=>V (ctor v)
 | .el .. | .kH _=>V 2
 | .sl 0 _ _ _ (_::_)=>V 4
 | .mp _=>V 6
 | .fn .. =>V 8
 |_=>G
def eqC (k a b:Nat):A Bool:=aS (iX a k&&iX b k) (V M) (aS ((iX a k&&iX b (k+1))||(iX a (k+1)&&iX b k)) (V B) G)
def kD:UD->cB
 | .pointer=>V 1
 | .slice _=>V 3
 | .map _ _=>V 5
 | .func=>V 7
 |_=>G
def aoe {x:AV} (h:abU x=V k) (hv:VA F g v x):ctor v=k:=by
 unfold abU at h;split at h<;>first|(cases h;done)|(cases h;cases hv<;>rfl)
def arG {d:UD} (h:kD d=V k) (eq:ll->SV->SV->A Bool) (t:ll) (v w:SV):eqD d E eq t v w=eqC k (ctor v) (ctor w):=by
 cases d<;>first|(cases h;done)|(cases h;cases v<;>cases w<;>rfl)
def avR {e:Nat} {Q:bz} (q:VA F g v (.sl 1 e sz n Q)):eqC 3 3 (ctor v)=V Q.isEmpty/\eqC 3 (ctor v) 3=V Q.isEmpty:=by
 cases q with
 |nil=>exact ⟨rfl,rfl⟩
 |sl hn hF hc hm=>cases Q with
  |nil=>exact absurd rfl (hm.1 rfl)
  |cons=>exact ⟨rfl,rfl⟩
def arF (E:Env) (eq:ll->AV->AV->A Bool) (xs ys:bc):List FL->A Bool
 | []=>V M
 |f::fs=>aS f.named (ay (E.ty.get f.type) λi=>cj (wJ i xs f.off) (wJ i ys f.off) λx y=>cj (eq f.type x y) (arF E eq xs ys fs) λa b=>V (a&&b)) G
def aCI (E:Env) (eq:ll->AV->AV->A Bool) (t:ll):UD->AV->AV->A Bool
 | .bool,.lit (.bool a),.lit (.bool b)=>V (a==b)
 | .int _,.lit (.int k (.lit a)),.lit (.int k' (.lit b))=>aS (iD k k') (V (U (a=b))) G
 | .string,.lit (.str a),.lit (.str b)=>V (U (a=b))
 | .struct fs,x,y=>cj (aie x) (aie y) λxs ys=>aS (E.P.stoodInHeld t) G (arF E eq xs ys fs)
 | .slice _,.lit .cr,.sl 1 _ _ _ Q=>V Q.isEmpty
 | .slice _,.sl 1 _ _ _ Q,.lit .cr=>V Q.isEmpty
 |d,x,y=>ay (kD d) λk=>cj (abU x) (abU y) (eqC k)
def Zt (E:Env) (n:Nat):ll->AV->AV->A Bool:=
 @Nat.rec (λ_=>ll->AV->AV->A Bool) (λ_ _ _=>G) (λ_ eq t x y=>ay (E.ty.get t) λi=>aCI E eq t i.desc x y) n
def ahG {eq:ll->SV->SV->A Bool} {eqL:ll->AV->AV->A Bool} (ih:∀t v w x y b,VA F g v x->VA F g w y->eqL t x y=V b->eq t v w=V b) {vs ws:bf} {xs ys:bc} (h1:dK F g vs xs) (h2:dK F g ws ys):∀{fs:List FL} {b:Bool},arF E eqL xs ys fs=V b->Kr E eq vs ws fs=V b
 | [],_,hb=>hb
 |f::fs,b,hb=>by
  obtain ⟨hn,hb⟩:=aZ hb;obtain ⟨i,hi,hb⟩:=aq hb;obtain ⟨x,y,hx,hy,hb⟩:=bT hb;obtain ⟨c,d,hc,hd,hb⟩:=bT hb;obtain ⟨v,v1,v2⟩:=yz h1 hx;obtain ⟨w,w1,w2⟩:=yz h2 hy;have e1:=ih _ _ _ _ _ _ v2 w2 hc;have e2:=ahG ih h1 h2 hd;show aS f.named (ay (E.ty.get f.type) λi=>cj (jr i vs f.off) (jr i ws f.off) λx y=>andThen (eq f.type x y) (Kr E eq vs ws fs)) G=_
  rw[hn,hi];show cj (jr i vs f.off) (jr i ws f.off) (λx y=>andThen (eq f.type x y) (Kr E eq vs ws fs))=_
  rw[v1,w1];show andThen (eq f.type v w) (Kr E eq vs ws fs)=_;rw[e1,e2];cases hb;cases c<;>rfl
def anX:∀(n:Nat) {t:ll} {v w:SV} {x y:AV} {b:Bool},VA F g v x->VA F g w y->Zt E n t x y=V b->eqT E n t v w=V b
 |0,_,_,_,_,_,_,_,_,hb=>by cases hb
 |n+1,t,v,w,x,y,b,hv,hw,hb=>by
  obtain ⟨i,hi,hb⟩:=aq (show ay (E.ty.get t) (λi=>aCI E (Zt E n) t i.desc x y)=V b from hb)
  show ay (E.ty.get t) (λi=>eqD i.desc E (eqT E n) t v w)=_
  rw[hi];show eqD i.desc E (eqT E n) t v w=V b;generalize i.desc=d at hb;unfold aCI at hb;split at hb
  ·cases hv;cases hw;exact hb
  ·cases hv;cases hw;obtain ⟨hk,hb⟩:=aZ hb;show aS (iD _ _) (V (J4 _ _)) G=_;rw[hk,DM];exact hb
  ·cases hv;cases hw;show V (GP _ _)=_;rw[yr];exact hb
  ·obtain ⟨xs,ys,h1,h2,hb⟩:=bT hb;obtain ⟨vs,rfl,q1⟩:=ZC h1 hv;obtain ⟨ws,rfl,q2⟩:=ZC h2 hw;show aS (E.P.stoodInHeld t) G (Kr E (eqT E n) _ _ _)=_;rw[cI] at hb ⊢;split at hb
   ·cases hb
   ·rename_i hs;rw[aC hs];exact ahG (eqL:=Zt E n) (λ_ _ _ _ _ _ a b c=>anX n a b c) q1 q2 hb
  ·cases hv;rw[arG rfl];exact (avR hw).1.trans hb
  ·cases hw;rw[arG rfl];exact (avR hv).2.trans hb
  ·obtain ⟨k,hk,hb⟩:=aq hb;obtain ⟨a,b',h1,h2,hb⟩:=bT hb;rw[arG hk,aoe h1 hv,aoe h2 hw];exact hb
def aSr (E:Env) (t:ll) (x:AV):Bool:=
 match x with
 | .agg _=> !E.P.eqGuardType E.P.depth t
 | .lit (.agg _)=> !E.P.eqGuardType E.P.depth t
 | .undef=>B
 |_=>M
def asd (E:Env) (op:S') (t:ll) (x y:AV):A AV:=
 match x,y with
 | .lit (.int k (.lit m)),.lit (.int k' (.lit n))=>aS (iD k k') (binL op k m n) G
 | .lit (.str a),.lit (.str b)=>binS op a b
 | .lit (.int _ _),_=>G
 | .lit (.str _),_=>G
 |x,y=>aS (aSr E t x) (match op with
  | .eql=>ay (Zt E 20 t x y) λb=>V (.bool b)
  | .neq=>ay (Zt E 20 t x y) λb=>V (.bool (!b))
  |_=>G) G
def aLJ {op:S'} {x y z:AV} (hv:VA F g v x) (hw:VA F g w y) (hz:asd E op t x y=V z):∃u,R0 E op t ox oy v w=V u/\VA F g u z:=by
 unfold asd at hz;split at hz
 ·obtain ⟨hk,h2⟩:=aZ hz;obtain rfl:=Rz hk;cases hv;cases hw;exact aJF h2
 ·cases hv;cases hw;exact aJE hz
 ·cases hz
 ·cases hz
 ·rename_i n1 n2 n3 n4;obtain ⟨h1,h2⟩:=aZ hz;clear hz;have hb:aDe v=(λE op t ox oy x y=>Y4 op E t ox oy x y)/\aCG E t ox oy v=M:=by
   cases hv with
   |lit v=>cases v<;>first|exact ⟨rfl,h1⟩|exact ⟨rfl,rfl⟩|exact (n1 _ _ rfl).elim|exact (n2 _ rfl).elim
   |undef=>cases h1
   |_=>first|exact ⟨rfl,h1⟩|exact ⟨rfl,rfl⟩
  show ∃u,aDe v E op t ox oy v w=V u/\VA F g u z;rw[hb.1];have key:∀{b:Bool},Zt E 20 t x y=V b->Kq E t ox oy v w=V b:=λh2=>by
   unfold Kq;rw[hb.2];exact anX 20 hv hw h2
  split at h2
  ·obtain ⟨b,h3,h2⟩:=aq h2;cases h2;exact ⟨.bool b,by show mi B (Kq E t ox oy v w)=_;rw[key h3];rfl,.lit _⟩
  ·obtain ⟨b,h3,h2⟩:=aq h2;cases h2;exact ⟨.bool (!b),by show mi M (Kq E t ox oy v w)=_;rw[key h3];rfl,.lit _⟩
  ·cases h2
def unL (op:UnOp):AV->A AV
 | .lit (.bool b)=>aS (TQ op) (V (.bool (!b))) G
 | .lit (.int k (.lit n))=>aS (isNeg op) (V (.int k (k.wrap (0-n)))) G
 |_=>G
def aQC {op:UnOp} {x y:AV} (hx:unL op y=V x) (hv:VA F g v y):∃u,same (unA op v)=V (u,[])/\VA F g u x:=by
 unfold unL at hx;split at hx
 ·obtain ⟨h1,h2⟩:=aZ hx;cases h2;cases hv;exact ⟨_,by show same (aS (TQ op) (V (SV.bool _)) G)=_;rw[h1];rfl,.lit _⟩
 ·obtain ⟨h1,h2⟩:=aZ hx;cases h2;cases hv;exact ⟨_,by show same (aS (isNeg op) (V (SV.int _ _)) G)=_;rw[h1];rfl,.lit _⟩
 ·cases hx
def arS:UD->AV->A AV
 | .int k,.lit (.int _ (.lit n))=>V (.int k (k.wrap n))
 | .string,.lit (.str s)=>V (.str s)
 | .string,.lit (.int _ (.lit n))=>V (.str (Utf8.encode n))
 |_,_=>G
def aJC {x y:AV} (hi:E.ty.get src=V i) (hi2:E.ty.get dst=V i2) (hx:arS i2.desc y=V x) (hv:VA F g v y):∃u,same (Ug E src dst v)=V (u,[])/\VA F g u x:=by
 have key:∃u,abW i2.desc v=V u/\VA F g u x:=by
  generalize i2.desc=d at hx;unfold arS at hx;split at hx<;>first|(cases hx;done)|(cases hx;cases hv;exact ⟨_,rfl,.lit _⟩)
 obtain ⟨u,u1,u2⟩:=key;refine ⟨u,?_,u2⟩;show same (cj (E.ty.get src) (E.ty.get dst) λ_ i=>abW i.desc v)=_
 rw[hi,hi2];show same (abW i2.desc v)=_;rw[u1];rfl
end
section
variable {F F':Hf} {g g':Gb} {Y:Nat->Ow} {c:Nat->cB} {s s':LS} {T:Tf} {H:Hf} {E:Env} {pn:Nat->Bool}
def To (ts:fq):List (Nat×C')->A (List (Nat×bc))
 | []=>V []
 |p::rest=>cj (E3 (dN ts p.2)) (To ts rest) λcs l=>V ((p.1,cs)::l)
def Ps (place:Nat->A (Nat×Nat)) (cs:bc):List (Nat×bc)->A bc
 | []=>V cs
 |p::rest=>ay (place p.1) λq=>aS (iX p.2.length q.2&&kN (p8 q.1 q.2) cs.length) (Ps place (ic cs q.1 p.2) rest) G
inductive PVs (F:Hf) (g:Gb):List (Nat×bf)->List (Nat×bc)->Prop
 |nil:PVs F g [] []
 |cons {j vs xs l m:_} (h:dK F g vs xs) (t:PVs F g l m):PVs F g ((j,vs)::l) ((j,xs)::m)
def Gj {x:AV} {xs:bc} (h:E3 x=V xs):x≠ .undef:=λe=>by rw[e] at h;cases h
def Rn (r:Rel F g Y c s T H):∀{l:List (Nat×C')} {m:List (Nat×bc)},To s.ts l=V m->∃k,mI T l=V k/\PVs F g k m
 | [],_,hm=>by cases hm;exact ⟨[],rfl,.nil⟩
 |p::rest,m,hm=>by
  obtain ⟨cs,m',h1,h2,h3⟩:=bT hm;cases h3;obtain ⟨v,v1,v2⟩:=r.val (x:=p.2) rfl (Gj h1);obtain ⟨ws,w1,w2⟩:=Gi h1 v2;obtain ⟨k,k1,k2⟩:=Rn r h2;refine ⟨(p.1,ws)::k,?_,.cons w2 k2⟩;show ay (dt T p.2) (λv=>cj v.cells (mI T rest) λcs l=>V ((p.1,cs)::l))=_
  rw[v1];show cj v.cells (mI T rest) (λcs l=>V ((p.1,cs)::l))=_
  rw[w1,k1];rfl
def Pr {place:Nat->A (Nat×Nat)}:∀{k:List (Nat×bf)} {m:List (Nat×bc)} {vs:bf} {xs ys:bc},PVs F g k m->dK F g vs xs->Ps place xs m=V ys->∃ws,oF place vs k=V ws/\dK F g ws ys
 |_,_,vs,_,_,.nil,hv,hy=>by cases hy;exact ⟨vs,rfl,hv⟩
 |_,_,vs,xs,ys,.cons (j:=j) (vs:=pv) (l:=kt) h t,hv,hy=>by
  obtain ⟨q,h1,hy⟩:=aq hy;obtain ⟨h2,hy⟩:=aZ hy;obtain ⟨ws,w1,w2⟩:=Pr t (hv.eJ h q.1) hy;refine ⟨ws,?_,w2⟩;show ay (place j) (λq=>aS (iX pv.length q.2&&kN (p8 q.1 q.2) vs.length) (oF place (eJ vs q.1 pv) kt) G)=_
  rw[h1];show aS (iX pv.length q.2&&kN (p8 q.1 q.2) vs.length) (oF place (eJ vs q.1 pv) kt) G=_;rw[h.length,hv.length,h2];exact w1
def ahU (E:Env) (z:bc) (jC:List (Nat×bc)):UD->A bc
 | .array _ e=>ay (E.ty.get e) λie=>Ps (uw ie.size) z jC
 | .struct fs=>Ps (Tl E fs) z jC
 |_=>G
def aDb {k:List (Nat×bf)} {m:List (Nat×bc)} {ys:bc} (hi:E.ty.get t=V i) (hk:PVs F g k m) (hy:ahU E (zc i.zero) m i.desc=V ys):∃u,same (Nr E t k)=V (u,[])/\VA F g u (.agg ys):=by
 have key:∃ws,Uk i.desc E i.zero k=V (.agg ws)/\dK F g ws ys:=by
  generalize i.desc=d at hy;unfold ahU at hy;split at hy
  ·obtain ⟨ie,hie,hy⟩:=aq hy;obtain ⟨ws,w1,w2⟩:=Pr hk uZ hy;refine ⟨ws,?_,w2⟩;show ay (E.ty.get _) (λie=>Nv (oF (uw ie.size) i.zero k))=_
   rw[hie];show Nv (oF (uw ie.size) i.zero k)=_;rw[w1];rfl
  ·obtain ⟨ws,w1,w2⟩:=Pr hk uZ hy;refine ⟨ws,?_,w2⟩;show Nv (oF (Tl E _) i.zero k)=_;rw[w1];rfl
  ·cases hy
 obtain ⟨ws,w1,w2⟩:=key;refine ⟨.agg ws,?_,.agg w2⟩;show same (ay (E.ty.get t) λi=>Uk i.desc E i.zero k)=_
 rw[hi];show same (Uk i.desc E i.zero k)=_;rw[w1];rfl
def arrE:UD->A (Nat×ll)
 | .array n e=>V (n,e)
 |_=>G
def asq (E:Env) (t:ll) (k:Nat):A TI:=ay (E.ty.get t) λi=>ay (arrE i.desc) λq=>ay (E.ty.get q.2) λie=>aS (kN (J' k) q.1) (V ie) G
def Ur {ie:TI} (h:asq E t k=V ie):∃i n e,E.ty.get t=V i/\i.desc= .array n e/\E.ty.get e=V ie/\kN (J' k) n=M:=by
 obtain ⟨i,hi,h⟩:=aq h;obtain ⟨q,hq,h⟩:=aq h;obtain ⟨ie',hie,h⟩:=aq h;obtain ⟨hk,h⟩:=aZ h;cases h;cases hd:i.desc<;>rw[hd] at hq<;>cases hq
 exact ⟨i,_,_,hi,hd,hie,hk⟩
def aBp (bs:cZ):UD->AV->A Int
 | .slice _,.sl _ _ _ n _=>V (n:Int)
 | .slice _,.lit .cr=>V 0
 | .slice _,.ms _ _ _ n=>V (n:Int)
 | .string,.lit (.str b)=>V (b.size:Int)
 | .map _ _,.mp K=>(match lk K bs with|some (.map es)=>V (es.length:Int)|_=>G)
 | .map _ _,.lit .pT=>V 0
 |_,_=>G
def aLu {d:UD} {n:Int} {y:AV} (r:Rel F g Y c s T H) (hn:aBp s.bs d y=V n) (hv:VA F g v y):Cy d v H=V (.int .i64 (.lit n)):=by
 have key:∀{n':Nat},Ry v=V n'->n=(n':Int)->ay (Ry v) (λn=>V (xb n))=V (SV.int .i64 (.lit n)):=λ{n'} h1 h2=>by
  rw[h1,h2];rfl
 unfold aBp at hn;split at hn
 ·cases hn;rename_i n0 Q;exact key (n':=n0) (by cases hv<;>rfl) rfl
 ·cases hn;cases hv;rfl
 ·cases hn;rename_i n0;exact key (n':=n0) (by cases hv<;>rfl) rfl
 ·cases hn;cases hv;rfl
 ·split at hn
  ·rename_i K _ es hb;cases hn;cases hv;obtain ⟨q,_,q3⟩:=r.bx K _ hb;generalize Y K=L at q q3;cases q with
   | @map _ ms cl hk hv hw=>
   show ay (kZ (H (g K).n)) (λp=>V (xb p.1.length))=_
   rw[(q3 ((g K).n,.map ms cl) (by simp)).1]
   show V (xb ms.length)=_;rw[show ms.length=es.length by simpa using hk.length];rfl
  ·cases hn
 ·cases hn;cases hv;rfl
 ·cases hn
def aqz (mx:Bool):AV->AV->A AV
 | .lit (.int k (.lit m)),.lit (.int k' (.lit n))=>aS (iD k k') (V (.int k (aS mx (if m<n then n else m) (if n<m then n else m)))) G
 |_,_=>G
def awV {x y z:AV} (hz:aqz mx x y=V z) (hv:VA F g v x) (hw:VA F g w y):∃u,same (Za E mx v w)=V (u,[])/\VA F g u z:=by
 unfold aqz at hz;split at hz
 ·obtain ⟨hk,hz⟩:=aZ hz;cases hz;cases hv;cases hw;rename_i k m k' n;refine ⟨_,?_,.lit _⟩;cases mx
  ·show V (SV.int k (aS (Dd n m) (.lit n) (.lit m)),[])=V (SV.int k (.lit (if n<m then n else m)),[])
   rw[xT,cI];by_cases hc:n<m<;>simp[hc]
  ·show V (SV.int k (aS (Dd m n) (.lit n) (.lit m)),[])=V (SV.int k (.lit (if m<n then n else m)),[])
   rw[xT,cI];by_cases hc:m<n<;>simp[hc]
 ·cases hz
def bltL (E:Env) (s:LS) (b:Builtin) (aa:List C') (ts:List ll):A AV:=
 match b,aa,ts with
 | .len,[a],[t]=>ay (E.ty.get t) λi=>ay (aBp s.bs i.desc (dN s.ts a)) λn=>V (.int .i64 n)
 | .min,[a,b],_=>aqz B (dN s.ts a) (dN s.ts b)
 | .max,[a,b],_=>aqz M (dN s.ts a) (dN s.ts b)
 |_,_,_=>G
def H5 (x:AV):A AV:=aS (tj x) G (V x)
def qw {x y:AV} (h:H5 x=V y):x=y/\x≠ .undef:=by
 unfold H5 at h;cases hx:tj x with
 |true=>rw[hx] at h;cases h
 |false=>rw[hx] at h;cases h;exact ⟨rfl,J1 hx⟩
def aRf:AV->Bool
 | .el _ _ _ _| .kH _| .fn _ _ _=>M
 |_=>B
def Tk (E:Env) (s:LS) (op:Op):A AV:=
 match op with
 | .move a=>H5 (dN s.ts a)
 | .assign a=>H5 (dN s.ts a)
 | .pick c a b=>(match dN s.ts c with| .lit (.bool t)=>H5 (dN s.ts (aS t a b))|_=>G)
 | .nilCheck a=>aS (aRf (dN s.ts a)) (V (dN s.ts a)) G
 | .load t a=>ay (E.ty.get t) λi=>ay (H5 (dN s.ts a)) λy=>JY i s.bs y
 | .fieldAddr t a f=>ay (Io E t f) λp=>ay (H5 (dN s.ts a)) λy=>ayF p y
 | .field t a f=>ay (Io E t f) λp=>ay (H5 (dN s.ts a)) λy=>ay (aie y) λcs=>wJ p.2 cs p.1
 | .extract a i=>(match dN s.ts a with| .dq xs=>xs[i]? |_=>G)
 | .binOp op t a b _=>cj (H5 (dN s.ts a)) (H5 (dN s.ts b)) λx y=>asd E op t x y
 | .unOp op _ a=>ay (H5 (dN s.ts a)) λy=>unL op y
 | .convert src dst a=>cj (E.ty.get src) (E.ty.get dst) λ_ i2=>ay (H5 (dN s.ts a)) λy=>arS i2.desc y
 | .makeFunc (.func f) a c=>aS (rD (qP s.ts a.toList)) (aS (rD (qP s.ts c.toList)) (V (.fn f (qP s.ts a.toList) (qP s.ts c.toList))) G) G
 | .build t parts=>cj (E.ty.get t) (To s.ts parts.toList) λi m=>ay (ahU E (zc i.zero) m i.desc) λys=>V (.agg ys)
 | .index t a ix=>(match dN s.ts a,dN s.ts ix with
  | .agg cs,.lit (.int _ (.lit (.ofNat k)))=>ay (asq E t k) λie=>wJ ie cs (A' k ie.size)
  |_,_=>G)
 | .indexAddr t a ix=>(match dN s.ts a,dN s.ts ix with
  | .el K z 0 off,.lit (.int _ (.lit (.ofNat k)))=>ay (asq E t k) λie=>V (.el K z 0 (p8 off (A' k ie.size)))
  |_,_=>G)
 | .call c=>(match c.callee with
  | .builtin b=>aS (rD (qP s.ts c.args.toList)) (bltL E s b c.args.toList c.argTypes.toList) G
  |_=>G)
 |_=>G
def awr {op:Op} {x:AV} (hx:Tk E s op=V x):Ok E pn op s s x []:=by
 unfold Tk at hx;split at hx
 ·obtain ⟨rfl,h2⟩:=qw hx;exact .un (f:=λ_ v=>V (v,[])) (λ_ _ _=>rfl) rfl h2 λr hv=>⟨_,rfl,hv⟩
 ·obtain ⟨rfl,h2⟩:=qw hx;exact .un (f:=λ_ v=>V (v,[])) (λ_ _ _=>rfl) rfl h2 λr hv=>⟨_,rfl,hv⟩
 ·split at hx
  ·rename_i t hc;obtain ⟨rfl,h2⟩:=qw hx;refine .val λ{F g Y c T H} r=> ?_
   obtain ⟨v,v1,v2⟩:=r.val hc (by simp)
   obtain ⟨w,w1,w2⟩:=r.val rfl h2;cases v2;refine ⟨w,λ_=> ?_,w2⟩
   show ay (dt T _) (λv=>ay (uH v) λb'=>one T (aS b' _ _) λv=>V (v,[]))=_
   rw[v1];show one T (aS t _ _) (λv=>V (v,[]))=_
   rw[one,w1];rfl
  ·cases hx
 ·obtain ⟨h1,hx⟩:=aZ hx;cases hx;refine .un (f:=λ_ v=>same (abA v)) (λ_ _ _=>rfl) rfl (λe=>by rw[e] at h1;cases h1) λ{F g Y c T H v} r hv=>⟨v,?_,hv⟩
  generalize dN s.ts _=y at h1 hv;cases y<;>first|(cases h1;done)|(cases hv<;>rfl)
 ·obtain ⟨i,hi,hx⟩:=aq hx;obtain ⟨y,hy,hx⟩:=aq hx;obtain ⟨rfl,hn⟩:=qw hy;exact .un (f:=λH v=>same (rR E H _ v)) (λ_ _ _=>rfl) rfl hn λr hv=>anH hi hx r hv
 ·obtain ⟨p,hp,hx⟩:=aq hx;obtain ⟨y,hy,hx⟩:=aq hx;obtain ⟨rfl,hn⟩:=qw hy;exact .un (f:=λ_=>sj E _ _) (λ_ _ _=>rfl) rfl hn λr hv=>aCu hp hx hv
 ·obtain ⟨p,hp,hx⟩:=aq hx;obtain ⟨y,hy,hx⟩:=aq hx;obtain ⟨rfl,hn⟩:=qw hy;obtain ⟨cs,hc,hx⟩:=aq hx;exact .un (f:=λ_=>DK E _ _) (λ_ _ _=>rfl) rfl hn λr hv=>by
   obtain ⟨vs,rfl,q⟩:=ZC hc hv;exact aCt hp q hx
 ·split at hx
  ·rename_i xs ha;exact .un (f:=λ_ v=>ay (SL v) λvs=>same (vs[_]?)) (λ_ _ _=>rfl) ha (by simp) λr hv=>by
    cases hv with
    | @dq _ vs _ q=>
    obtain ⟨u,u1,u2⟩:=q.get hx;exact ⟨u,by show same (vs[_]?)=_;rw[u1];rfl,u2⟩
  ·cases hx
 ·obtain ⟨y,z,hy,hz,hx⟩:=bT hx;obtain ⟨rfl,hn⟩:=qw hy;obtain ⟨rfl,hm⟩:=qw hz;exact .bi (f:=λv u=>same (R0 E _ _ _ _ v u)) (λ_ _ _=>rfl) rfl hn rfl hm λhv hw=>by
   obtain ⟨u,u1,u2⟩:=aLJ hv hw hx;exact ⟨u,by rw[u1];rfl,u2⟩
 ·obtain ⟨y,hy,hx⟩:=aq hx;obtain ⟨rfl,hn⟩:=qw hy;exact .un (f:=λ_ v=>same (unA _ v)) (λ_ _ _=>rfl) rfl hn λr hv=>aQC hx hv
 ·obtain ⟨i,i2,h1,h2,hx⟩:=bT hx;obtain ⟨y,hy,hx⟩:=aq hx;obtain ⟨rfl,hn⟩:=qw hy;exact .un (f:=λ_ v=>same (Ug E _ _ v)) (λ_ _ _=>rfl) rfl hn λr hv=>aJC h1 h2 hx hv
 ·rename_i f a c;obtain ⟨h1,hx⟩:=aZ hx;obtain ⟨h2,hx⟩:=aZ hx;cases hx;refine .val λ{F g Y _ T H} r=> ?_
  obtain ⟨vs,v1,v2⟩:=r.gj h1;obtain ⟨ws,w1,w2⟩:=r.gj h2;refine ⟨.fn (.func f) vs ws,λ_=> ?_,.fn _ v2 w2⟩
  show aS (agv (.func f)) (cj (gj T a.toList) (gj T c.toList) λl m=>V (SV.fn (.func f) l m,[])) G=_
  rw[v1,w1];rfl
 ·obtain ⟨i,m,h1,h2,hx⟩:=bT hx;obtain ⟨ys,h3,hx⟩:=aq hx;cases hx;refine .val λ{F g Y c T H} r=> ?_
  obtain ⟨k,k1,k2⟩:=Rn r h2;obtain ⟨u,u1,u2⟩:=aDb h1 k2 h3;refine ⟨u,λ_=> ?_,u2⟩
  show ay (mI T _) (λjC=>same (Nr E _ jC))=_
  rw[k1];exact u1
 ·split at hx
  ·rename_i cs _ k ha BZ;obtain ⟨ie,hie,hx⟩:=aq hx;obtain ⟨i,n,e,h1,h2,h3,h4⟩:=Ur hie;exact .bi (f:=λv u=>ay (oE u) λk=>AF E _ k v) (λ_ _ _=>rfl) ha (by simp) BZ (by simp) λhv hw=>by
    cases hv with
    | @agg _ vs _ q=>
    cases hw;obtain ⟨u,u1,u2⟩:=yz q hx;refine ⟨u,?_,u2⟩;show ay (E.ty.get _) (λi=>agZ i.desc E k (.agg vs))=_
    rw[h1];show agZ i.desc E k (.agg vs)=_;rw[h2];show cj (V vs) (E.ty.get e) (λcs ie=>aS (kN (J' k) n) (same (jr ie cs (A' k ie.size))) G)=_
    rw[h3];show aS (kN (J' k) n) (same (jr ie vs (A' k ie.size))) G=_;rw[h4,u1];rfl
  ·cases hx
 ·split at hx
  ·rename_i K z off _ k ha BZ;obtain ⟨ie,hie,hx⟩:=aq hx;obtain ⟨i,n,e,h1,h2,h3,h4⟩:=Ur hie;cases hx;exact .bi (f:=λv u=>ay (oE u) λk=>same (rS E _ v k)) (λ_ _ _=>rfl) ha (by simp) BZ (by simp) λ{F g v w} hv hw=>by
    cases hv;cases hw;refine ⟨.ptr (g K).n (0*z+(off+k*ie.size)),?_,.el K z 0 _ (by assumption)⟩
    show same (ay (E.ty.get _) λi=>J6 i.desc E (.ptr (g K).n (0*z+off)) k)=_
    rw[h1];show same (J6 i.desc E (.ptr (g K).n (0*z+off)) k)=_;rw[h2];show same (aS (kN (J' k) n) (ay (E.ty.get e) λie=>V (SV.ptr (g K).n (p8 (0*z+off) (A' k ie.size)))) G)=_
    rw[h4,h3];show V (SV.ptr (g K).n (0*z+off+k*ie.size),[])=_;rw[gL]
  ·cases hx
 ·split at hx
  ·rename_i c _ b hc;obtain ⟨h1,hx⟩:=aZ hx;refine .val λ{F g Y Gg T H} r=> ?_
   obtain ⟨vs,v1,v2⟩:=r.gj h1;have key:∃u,(∀new,nK E H new b vs c.argTypes.toList=V (u,[]))/\VA F g u x:=by
    generalize c.args.toList=aa at v2 hx;generalize c.argTypes.toList=ts at hx;unfold bltL at hx;split at hx
    ·obtain ⟨i,hi,hx⟩:=aq hx;obtain ⟨n,hn,hx⟩:=aq hx;cases hx;cases v2 with|cons q1 q2=>
     cases q2;refine ⟨_,λ_=> ?_,.lit _⟩
     show ay (E.ty.get _) (λi=>same (Cy i.desc _ H))=_
     rw[hi];show same (Cy i.desc _ H)=_;rw[aLu r hn q1];rfl
    ·cases v2 with|cons q1 q2=>
     cases q2 with|cons q2 q3=>
     cases q3;obtain ⟨u,u1,u2⟩:=awV hx q1 q2;exact ⟨u,λ_=>u1,u2⟩
    ·cases v2 with|cons q1 q2=>
     cases q2 with|cons q2 q3=>
     cases q3;obtain ⟨u,u1,u2⟩:=awV hx q1 q2;exact ⟨u,λ_=>u1,u2⟩
    ·cases hx
   obtain ⟨u,u1,u2⟩:=key;refine ⟨u,λnew=> ?_,u2⟩
   show pI E T H new c=_;unfold pI;rw[hc];show ay (gj T c.args.toList) (λaa=>nK E H new b aa c.argTypes.toList)=_
   rw[v1];exact u1 new
  ·cases hx
 ·cases hx
def elN {id f:Nat} {cp:Cp} (e:g K=⟨id,cp,M⟩):VA F g (.ptr id f) (.el K 0 0 f):=by
 have:=VA.el (F:=F) (g:=g) K 0 0 f (by rw[e])
 rwa[e,cq] at this
def sA {id s:Nat} {cp:Cp} (e:g K=⟨id,cp,M⟩):VA F g (.sl id 0 n cp) (.ms K s 0 n):=by
 have:=VA.ms (F:=F) (g:=g) (K:=K) s 0 n (by rw[e])
 rw[e,ng] at this;cases cp<;>exact this
def ars {id:Nat} {cp:Cp} {xs:bc} (h:g K=⟨id,cp,M⟩) (q:dK F g svs xs):eQ F g K (.flat e xs) [(id,.cells e svs)]:=by
 have:=eQ.flat (K:=K) (e:=e) q;rwa[h] at this
def ni {id s:Nat} {cp:Cp} {Q:bz} (h:g K=⟨id,cp,M⟩) (hz:z=M->Q≠ []) (hu:∀r∈Q,r.length=s) (hc:zQ e s Q.length svs.length cp) (q:dK F lU (svs.take (Q.length*s)) Q.flatten):eQ F g K (.rows z e s Q) [(id,.cells e svs)]:=by
 have:=eQ.bY (F:=F) (g:=g) (K:=K) (z:=z) (e:=e) (by rw[h]) hz hu (by rw[h];exact hc) (TR.te hu q) (o:= []) (λp hp=>by cases hp)
 rwa[h] at this
def B9 (sz:Nat):Nat->bc->bz
 |0,_=> []
 |n+1,cs=>cs.take sz::B9 sz n (cs.drop sz)
def ahR {sz:Nat}:∀{n:Nat} {cs:bc},cs.length=n*sz->(B9 sz n cs).length=n/\(∀r∈B9 sz n cs,r.length=sz)/\(B9 sz n cs).flatten=cs
 |0,cs,hl=>by
  rw[ng] at hl;rw[sP.1 hl];exact ⟨rfl,λr hr=>(by cases hr),rfl⟩
 |n+1,cs,hl=>by
  rw[fS,sQ] at hl;obtain ⟨a,b,c⟩:=ahR (sz:=sz) (n:=n) (cs:=cs.drop sz) (by rw[jq];omega)
  refine ⟨by show (B9 sz n (cs.drop sz)).length+1=_;rw[a],λr hr=> ?_,?_⟩
  ·rcases da.1 (show r∈cs.take sz::B9 sz n (cs.drop sz) from hr) with rfl|hr
   ·rw[dE];omega
   ·exact b r hr
  ·show cs.take sz++(B9 sz n (cs.drop sz)).flatten=cs;rw[c,yh]
def YV (z:bc):Nat->bc
 |0=> []
 |n+1=>z++YV z n
def afY {z:bf} {x:bc} (hz:dK F g z x):∀n,dK F g (rep z n) (YV x n)
 |0=>.nil
 |n+1=>hz.append (afY hz n)
def YU (z:bc):∀n,(YV z n).length=n*z.length
 |0=>by simp[YV]
 |n+1=>by show (z++YV z n).length=_;rw[gf,YU z n,fS,sQ,Dz]
def aar {place:Nat->A (Nat×Nat)}:∀{m:List (Nat×bc)} {xs ys:bc},Ps place xs m=V ys->ys.length=xs.length
 | [],_,_,hy=>by cases hy;rfl
 |p::rest,xs,ys,hy=>by
  obtain ⟨q,h1,hy⟩:=aq hy;obtain ⟨h2,hy⟩:=aZ hy;rw[aar hy];rw[bJ] at h2;have e1:p.2.length=q.2:=(beq_iff _ _).1 h2.1;have e2:q.1+q.2<=xs.length:=xg h2.2;unfold ic;rw[gf,gf,dE,jq,show p8 q.1 p.2.length=q.1+p.2.length from rfl];omega
def QW {ie:TI} (h:mL ie=M):ie.zero.length=ie.size:=by
 unfold mL at h;rw[bJ,bJ] at h;exact (beq_iff _ _).1 h.2.2
def Di (E:Env) (t:ll):A (ll×TI):=ay (E.ty.get t) λi=>ay (oM i.desc) λe=>ay (E.ty.get e) λie=>V (e,ie)
def rZ {p:ll×TI} (h:Di E t=V p):∃i,E.ty.get t=V i/\oM i.desc=V p.1/\E.ty.get p.1=V p.2:=by
 obtain ⟨i,hi,h⟩:=aq h;obtain ⟨e,he,h⟩:=aq h;obtain ⟨ie,hie,h⟩:=aq h;cases h;exact ⟨i,hi,he,hie⟩
def agk (E:Env) (s:LS) (K:Nat) (op:Op):A (Bx×AV):=
 match op with
 | .box e a=>ay (E3 (dN s.ts a)) λxs=>aS (mW K (lN xs)) G (V (.flat e xs,.loc K 0))
 | .alloc e=>ay (E.ty.get e) λi=>V (.flat e (zc i.zero),.loc K 0)
 | .buildSlice t len parts=>cj (Di E t) (To s.ts parts.toList) λp m=>aS (mL p.2&&kN (A' len p.2.size) 16777216) (ay (Ps (uw p.2.size) (YV (zc p.2.zero) len) m) λys=>
   aS (lN ys).isEmpty (V (.rows B p.1 p.2.size (B9 p.2.size len ys),.ms K p.2.size 0 len)) (aS (iX len 1 && !mW K (lN ys)) (V (.flat p.1 ys,.ms K p.2.size 0 1)) G)) G
 | .makeMap _ G=>V (.map [],.mp K)
 | .range t a=>ay (E.ty.get t) λi=>aS (Ia i.desc) (match dN s.ts a with| .lit (.str b)=>V (.iter b 0,.it K)|_=>G) G
 |_=>G
def Pb {l:bP} (h:mW K l=B):∀k∈l,k≠K:=λk hm e=>by
 rw[(tT K l).2 (e ▸ hm)] at h;cases h
def awq {op:Op} {p:Bx×AV} (hf:s.free K) (hp:pn K=B) (hx:agk E s K op=V p):Ok E pn op s (s.set K p.1) p.2 [K]:=by
 unfold agk at hx;split at hx
 ·rename_i e a;obtain ⟨xs,h1,hx⟩:=aq hx;rw[cI] at hx;split at hx
  ·cases hx
  ·rename_i hm;cases hx;refine .lay hp hf λ{F g Y c T H new} r=> ?_
   obtain ⟨v,v1,v2⟩:=r.val rfl (Gj h1);obtain ⟨vs,w1,w2⟩:=Gi h1 v2;refine ⟨.ptr new 0,.cells e vs,.k 1,?_,λg' e1 e2=>⟨elN e1,ars e1 (w2.same (.refl F) λk hk=>e2 k (Pb (by simpa using hm) k hk))⟩⟩
   show one T a (aqu new e)=_;rw[one,v1];show ay v.cells _=_;rw[w1];rfl
 ·rename_i e;obtain ⟨i,h1,hx⟩:=aq hx;cases hx;exact .lay hp hf λ{F g Y c T H new} r=>⟨.ptr new 0,.cells e i.zero,.k 1,by show ay (E.ty.get e) _=_;rw[h1];rfl,λg' e1 e2=>⟨elN e1,ars e1 uZ⟩⟩
 ·rename_i t len parts;obtain ⟨q,m,h1,h2,hx⟩:=bT hx;obtain ⟨h3,hx⟩:=aZ hx;obtain ⟨ys,h4,hx⟩:=aq hx;obtain ⟨i,hi,he,hie⟩:=rZ h1;have qe:=(j4.1 h3).1;have hlen:ys.length=len*q.2.size:=by rw[aar h4,YU,zc,my,QW qe]
  have run:∀{F:Hf} {g:Gb} {Y:Nat->Ow} {c:Nat->cB} {T:Tf} {H:Hf} {new:Nat},Rel F g Y c s T H->∃ws,dK F g ws ys/\ux E (.buildSlice t len parts) T H new=V (.sl new 0 len (.k len),[(new,V (.cells q.1 ws))]):=λ{F g Y c T H new} r=>by
   obtain ⟨k,k1,k2⟩:=Rn r h2;obtain ⟨ws,w1,w2⟩:=Pr k2 (afY uZ len) h4;refine ⟨ws,w2,?_⟩;show ay (mI T parts.toList) (λjC=>qv E new t len jC)=_
   rw[k1];show ay (E.ty.get t) _=_;rw[hi];show ay (oM i.desc) _=_;rw[he];show ay (E.ty.get q.1) _=_;rw[hie];show aS (mL q.2&&kN (A' len q.2.size) 16777216) (ay (oF (uw q.2.size) (rep q.2.zero len) k) λcs=>V (SV.sl new 0 len (.k len),[(new,V (SO.cells q.1 cs))])) G=_
   rw[h3,w1];rfl
  rw[cI] at hx;split at hx
  ·rename_i h5;cases hx;obtain ⟨c1,c2,c3⟩:=ahR hlen;refine .lay hp hf λ{F g Y c T H new} r=> ?_
   obtain ⟨ws,w2,w3⟩:=run (new:=new) r;refine ⟨_,_,.k len,w3,λg' e1 e2=>⟨sA e1,ni e1 (λe=>by cases e) c2 (by rw[c1];exact ⟨cS _,by rw[w2.length,hlen]⟩) ?_⟩⟩
   rw[c1,c3,iT (by rw[w2.length,hlen];exact cS _)]
   exact w2.tf h5
  ·obtain ⟨h6,hx⟩:=aZ hx;cases hx;rw[bJ] at h6;obtain rfl:=(beq_iff _ _).1 h6.1;refine .lay hp hf λ{F g Y c T H new} r=> ?_
   obtain ⟨ws,w2,w3⟩:=run (new:=new) r;exact ⟨_,_,.k 1,w3,λg' e1 e2=>⟨sA e1,ars e1 (w2.same (.refl F) λk hk=>e2 k (Pb (by simpa using h6.2) k hk))⟩⟩
 ·cases hx;refine .lay hp hf λ{F g Y c T H new} r=>⟨.mp new,.map [] 0,.k 0,rfl,λg' e1 e2=>⟨?_,?_⟩⟩
  ·have:=VA.mp (F:=F) (g:=g') K;rwa[e1] at this
  ·have:=eQ.map (F:=F) (g:=g') (K:=K) (es:= []) (ms:= []) (c:=0) .nil .nil ⟨by simp,by simp⟩
   rwa[e1] at this
 ·rename_i t a;obtain ⟨i,h1,hx⟩:=aq hx;obtain ⟨h2,hx⟩:=aZ hx;split at hx
  ·rename_i b ha;cases hx;refine .lay hp hf λ{F g Y c T H new} r=> ?_
   obtain ⟨v,v1,v2⟩:=r.val ha (by simp)
   cases v2;refine ⟨.ptr new 0,.qo b 0,.k 0,?_,λg' e1 e2=>⟨?_,?_⟩⟩
   ·show one T a (AE E H new t)=_;rw[one,v1];show ay (E.ty.get t) _=_;rw[h1];show ay (HU i.desc (.str b) H) _=_;generalize i.desc=d at h2;cases d<;>first|(cases h2;done)|rfl
   ·have:=VA.it (F:=F) (g:=g') K;rwa[e1] at this
   ·have:=eQ.iter (F:=F) (g:=g') (K:=K) (s:=b) (pos:=0);rwa[e1] at this
  ·cases hx
 ·cases hx
def Tj (E:Env) (s:LS) (op:Op):A (Nat×Bx):=
 match op with
 | .store t a c=>cj (E.ty.get t) (E3 (dN s.ts c)) λi xs=>(match dN s.ts a with
  | .el K _ j off=>(match lk K s.bs with
   |some (.flat e cs)=>zer j (aS (iX xs.length i.size&&kN (p8 off xs.length) cs.length) (V (K,.flat e (ic cs off xs))) G)
   |_=>G)
  |_=>G)
 |_=>G
def aaa {id:Nat} (hi:E.ty.get t=V i) (hw:w.cells=V vs) (hH:H id=V (.cells e svs)) (hl:(iX vs.length i.size&&kN (p8 off vs.length) svs.length)=M):
  unit (xi E H t w (.ptr id off))=V (.dq [],[(id,V (.cells e (eJ svs off vs)))]):=by
 show unit (ug (E.ty.get t) w.cells (mM (H id)) λi xs p=>aS (iX xs.length i.size&&kN (p8 off xs.length) p.2.length) (V [(id,V (SO.cells p.1 (eJ p.2 off xs)))]) G)=_
 rw[hi,hw,hH];show unit (aS (iX vs.length i.size&&kN (p8 off vs.length) svs.length) (V [(id,V (SO.cells e (eJ svs off vs)))]) G)=_;rw[hl];rfl
def awp {op:Op} {p:Nat×Bx} (hx:Tj E s op=V p):Ok E pn op s (s.set p.1 p.2) (.dq []) [p.1]:=by
 unfold Tj at hx;split at hx
 ·rename_i t a b;obtain ⟨i,xs,h1,h2,hx⟩:=bT hx;split at hx
  ·rename_i K z j off ha;split at hx
   ·rename_i e cs hb;obtain ⟨rfl,hx⟩:=adK hx;obtain ⟨h3,hx⟩:=aZ hx;cases hx;refine .wr hb λ{F g Y c T H} r=> ?_
    obtain ⟨v,v1,v2⟩:=r.val ha (by simp)
    obtain ⟨w,w1,w2⟩:=r.val rfl (Gj h2);obtain ⟨vs,u1,u2⟩:=Gi h2 w2;cases v2;obtain ⟨svs,hφ,q,hH⟩:=r.flat hb;refine ⟨.dq [],_,.cells e (eJ svs off vs),[],[],hφ,λnew=> ?_,.dq .nil,.flat (q.eJ u2 off),.refl _⟩
    show two T a b (λa v=>unit (xi E H t v a))=_
    rw[two,v1,w1];show unit (xi E H t w (.ptr (g K).n (0*z+off)))=_;rw[ng,cq];exact aaa h1 u1 hH (by rw[u2.length,q.length];exact h3)
   ·cases hx
  ·cases hx
 ·cases hx
end
section
variable {F F':Hf} {g g':Gb} {Y:Nat->Ow} {c:Nat->cB} {s s':LS} {T:Tf} {H:Hf} {E:Env} {pn:Nat->Bool}
variable {f N:Nat} {g7:Type}
def fp {x:A J} {a:J} {f:J->A γ} (h:x=V a):ay x f=f a:=by rw[h];rfl
def E5 {x:A J} {y:A g7} {a:J} {b:g7} {f:J->g7->A γ} (h:x=V a) (k:y=V b):cj x y f=f a b:=by rw[h,k];rfl
def F9 {J:Type} {s:Nat}:∀{Q:List (List J)},(∀r∈Q,r.length=s)->∀l,(Q.drop l).flatten=Q.flatten.drop (l*s)
 |_,_,0=>by simp
 | [],_,l+1=>by simp
 |r::Q,hu,l+1=>by
  rw[List.drop_succ_cons,F9 (λq hq=>hu q (by simp[hq])) l,qm,fS,sQ,Dz,<-sS,List.drop_left' (hu r (by simp))]
def F8 {J:Type} {s:Nat}:∀{Q:List (List J)},(∀r∈Q,r.length=s)->∀l,(Q.take l).flatten=Q.flatten.take (l*s)
 |_,_,0=>by simp
 | [],_,l+1=>by simp
 |r::Q,hu,l+1=>by
  rw[WV,qm,F8 (λq hq=>hu q (by simp[hq])) l,qm,fS,sQ,Dz,<-hu r (by simp),HC]
def ahB {s lo:Nat} {Q:List (List J)} (hu:∀r∈Q,r.length=s):((Q.drop lo).take n).flatten=(Q.flatten.drop (lo*s)).take (n*s):=by
 rw[F8 (λr hr=>hu r (oG hr)),F9 hu]
def Ta {s:Nat} {Q:List (List J)} {R:List J} (hj:Q[j]? =V R):j*s+s<=Q.length*s:=by
 have:=jn s (show j+1<=Q.length from (bK.1 hj).1);rwa[fS,sQ] at this
def aCr {s:Nat} {Q:List (List J)} {R:List J} (hu:∀r∈Q,r.length=s) (hj:Q[j]? =V R):(Q.flatten.drop (j*s)).take s=R:=by
 obtain ⟨dz,he⟩:=bK.1 hj;rw[<-F9 hu,uL dz,qm,he,HD (hu R (bU hj))]
def B4 {J:Type} (rows:List J) (n:Int):A J:=if 0<=n then rows[n.toNat]? else G
def QU {rows:List J} {n:Int} {R:J} (hg:B4 rows n=V R):∃k:Nat,n=k/\rows[k]? =V R:=by
 unfold B4 at hg;split at hg
 ·exact ⟨n.toNat,by omega,hg⟩
 ·cases hg
def aAQ (sh:Sh) (x:AV):AV:=
 match sh with
 | .d=>x
 | .o _ _=>.undef
def JG:ep->bc->bc
 |_,[]=> []
 |l,x::r=>aAQ (l.headD .d) x::JG l.tail r
def zi (sh:Sh) (x:AV):AV:=aS (kU x).isEmpty (aAQ sh x) .undef
def wH:ep->bc->bc
 |_,[]=> []
 |l,x::r=>zi (l.headD .d) x::wH l.tail r
def EF:Nat->ep->bc->fq
 |_,_,[]=> []
 |p,l,x::r=>aS (tj (zi (l.headD .d) x)) (aS (tj x) (EF (J' p) l.tail r) ((p,x)::EF (J' p) l.tail r)) (EF (J' p) l.tail r)
def lB.see:∀{l vs xs L},lB F l vs xs L->dK F lU vs (JG l xs)
 |_,_,_,_,.nil=>.nil
 |l,_,_,_,.cons (v:=v) q t=>.cons (by
  show VA F lU v (aAQ (l.headD .d) _);generalize l.headD .d=sh at q;cases sh with
  |d=>cases q with
   |d q=>exact q
   |any=>exact .undef v
  |o b l=>exact .undef v) t.see
def TR.at {s:Nat}:∀{l vs Q L} {j:Nat} {R},TR F l vs Q L->(∀r∈Q,r.length=s)->Q[j]? =V R->∃L0,lB F l ((vs.drop (j*s)).take s) R L0
 |_,_,_,_,_,_,.nil,_,h=>by cases h
 |l,_,_,_,0,R,.cons (vs:=vs) (a:=a) q t,hu,h=>by
  obtain rfl:_=R:=by simpa using h
  exact ⟨a,by rw[ng,pF,HD (by rw[q.length];exact hu _ (by simp))];exact q⟩
 |l,_,_,_,j+1,R,.cons (vs:=vs) q t,hu,h=>by
  have hl:vs.length=s:=by rw[q.length];exact hu _ (by simp)
  have:=t.at (λr hr=>hu r (dW _ hr)) (show _=V R by simpa using h)
  rwa[fS,sQ,Dz,<-sS,<-hl,W0,hl]
def TR.take {s:Nat}:∀{l vs Q L} (n:Nat),TR F l vs Q L->(∀r∈Q,r.length=s)->∃L',L'.Sublist L/\TR F l (vs.take (n*s)) (Q.take n) L'
 |_,_,_,_,0,_,_=>⟨[],OB _,by simpa using .nil⟩
 |_,_,_,_,n+1,.nil,_=>⟨[],.refl _,by simpa using .nil⟩
 |l,_,_,_,n+1,.cons (vs:=vs) q t,hu=>by
  obtain ⟨L',h1,h2⟩:=t.take n λr hr=>hu r (dW _ hr)
  refine ⟨_,(WU _).append h1,?_⟩;rw[fS,sQ,Dz,<-hu _ (kg),<-q.length,HC,WV,q.length,hu _ (kg)];exact .cons q h2
def TR.cut {s:Nat}:∀{l vs Q L} (n:Nat),TR F l vs Q L->(∀r∈Q,r.length=s)->∃f9 g6,L=f9++g6/\TR F l (vs.take (n*s)) (Q.take n) f9/\TR F l (vs.drop (n*s)) (Q.drop n) g6
 |_,_,_,L,0,q,_=>⟨[],L,rfl,by simpa using .nil,by simpa using q⟩
 |_,_,_,_,n+1,.nil,_=>⟨[],[],rfl,by simpa using .nil,by simpa using .nil⟩
 |l,_,_,_,n+1,.cons (vs:=vs) (a:=a) q t,hu=>by
  obtain ⟨f9,g6,h1,h2,h3⟩:=t.cut n λr hr=>hu r (dW _ hr)
  subst h1;have hl:vs.length=s:=by rw[q.length];exact hu _ kg
  have e:(n+1)*s=vs.length+n*s:=by rw[fS,sQ,hl];omega
  refine ⟨a++f9,g6,(lr ..).symm,?_,?_⟩
  ·rw[e,HC,WV];exact .cons q h2
  ·rw[e,alY,List.drop_succ_cons];exact h3
def TR.append:∀{l vs Q L ws R L2},TR F l vs Q L->TR F l ws R L2->TR F l (vs++ws) (Q++R) (L++L2)
 |_,_,_,_,_,_,_,.nil,k=>k
 |_,_,_,_,_,_,_,.cons q t,k=>by rw[lr,lr];exact .cons q (t.append k)
def TC.put {x:AV} (sh:Sh) (h:VA F g v x):TC F sh v (zi sh x) []:=by
 unfold zi;rw[cI];split
 ·rename_i hk;cases sh with
  |d=>exact .d (h.tf hk)
  |o=>exact .any v
 ·exact .any v
def lB.agh:∀{l ws xs},dK F g ws xs->lB F l ws (wH l xs) []
 |_,_,_,.nil=>.nil
 |l,_,_,.cons h t=>.cons (a:= []) (TC.put _ h) (lB.agh t)
def lB.put:∀{l vs R L ws xs},lB F l vs R L->dK F g ws xs->xs.length<=R.length->∃L',L'.Sublist L/\lB F l (ws++vs.drop ws.length) (wH l xs++R.drop xs.length) L'
 |l,vs,R,L,_,_,q,.nil,_=>⟨L,.refl _,by simpa[wH] using q⟩
 |l,_,_,_,_,_,.nil,.cons h t,hl=>by cases hl
 |l,_,_,_,_,_,.cons (a:=a) q qs,.cons h t,hl=>by
  obtain ⟨L',h1,h2⟩:=qs.put t (by simpa using hl)
  exact ⟨L',h1.trans (OC _ _),.cons (a:= []) (TC.put _ h) (by simpa using h2)⟩
def lB.spl:∀{l vs R L ws xs} (f:Nat),lB F l vs R L->dK F g ws xs->f+xs.length<=R.length->∃L',L'.Sublist L/\lB F l (eJ vs f ws) (ic R f (wH (l.drop f) xs)) L'
 |l,vs,R,L,ws,xs,0,q,h,hl=>by
  obtain ⟨L',h1,h2⟩:=q.put h (by omega)
  refine ⟨L',h1,?_⟩;show lB F l (vs.take 0++ws++vs.drop (p8 0 ws.length)) (R.take 0++wH l xs++R.drop (p8 0 (wH l xs).length)) L';rw[show (wH l xs).length=xs.length by rw[<-(lB.agh (F:=F) (l:=l) h).length,h.length],show p8 0 ws.length=ws.length from cq _,show p8 0 xs.length=xs.length from cq _]
  exact h2
 |l,_,_,_,ws,xs,f+1,.nil,h,hl=>by simp at hl
 |l,_,_,_,ws,xs,f+1,.cons (v:=v) (vs:=vs) (x:=x) (xs:=R) q t,h,hl=>by
  obtain ⟨L',h1,h2⟩:=t.spl f h (by simp at hl;omega)
  refine ⟨_,(WU _).append h1,?_⟩;have e1:eJ (v::vs) (f+1) ws=v::eJ vs f ws:=by
   show (v::vs).take (f+1)++ws++(v::vs).drop (f+1+ws.length)=v::(vs.take f++ws++vs.drop (f+ws.length));rw[show f+1+ws.length=f+ws.length+1 by omega];rfl
  have e2:∀ys,ic (x::R) (f+1) ys=x::ic R f ys:=λys=>by
   show (x::R).take (f+1)++ys++(x::R).drop (f+1+ys.length)=x::(R.take f++ys++R.drop (f+ys.length));rw[show f+1+ys.length=f+ys.length+1 by omega];rfl
  rw[e1,e2,show l.drop (f+1)=l.tail.drop f by cases l<;>simp]
  exact .cons q h2
def S5 {a v b:bf} (h:f+ws.length<=v.length):eJ (a++(v++b)) (a.length+f) ws=a++(eJ v f ws++b):=by
 show (a++(v++b)).take (a.length+f)++ws++(a++(v++b)).drop (a.length+f+ws.length)=a++((v.take f++ws++v.drop (f+ws.length))++b);rw[HC,alX (by omega),gL,alY,alW h]
 simp
def YN {R xs:bc} (h1:f+xs.length<=R.length):(ic R f xs).length=R.length:=by
 show (R.take f++xs++R.drop (f+xs.length)).length=_;rw[gf,gf,dE,jq];omega
def Cr (h1:f+xs.length<=R.length):(eJ R f xs).length=R.length:=by
 show (R.take f++xs++R.drop (f+xs.length)).length=_;rw[gf,gf,dE,jq];omega
def TR.spl {s:Nat} {xs:bc} (h:dK F g ws xs) (hl:f+xs.length<=s):∀{l vs Q L} {j:Nat} {R},TR F l vs Q L->(∀r∈Q,r.length=s)->Q[j]? =V R->∃L',L'.Sublist L/\TR F l (eJ vs (j*s+f) ws) (Q.set j (ic R f (wH (l.drop f) xs))) L'
 |_,_,_,_,_,_,.nil,_,hj=>by cases hj
 |l,_,_,_,0,R,.cons (vs:=vs) (ws:=b) q t,hu,hj=>by
  obtain rfl:_=R:=by simpa using hj
  have hr:=hu _ (kg);obtain ⟨L',h1,h2⟩:=q.spl f h (by omega)
  refine ⟨_,h1.append (.refl _),?_⟩;have:=S5 (a:= []) (v:=vs) (b:=b) (f:=f) (ws:=ws) (by rw[h.length,q.length];omega)
  rw[ng,show eJ (vs++b) (0+f) ws=eJ vs f ws++b from this];exact .cons h2 t
 |l,_,_,_,j+1,R,.cons (vs:=vs) (ws:=b) q t,hu,hj=>by
  obtain ⟨L',h1,h2⟩:=t.spl h hl (λr hr=>hu r (dW _ hr)) (show _=V R by simpa using hj)
  have hv:vs.length=s:=by rw[q.length];exact hu _ (kg)
  refine ⟨_,(WU _).append h1,?_⟩;have hlen:=t.length λr hr=>hu r (dW _ hr)
  have hjs:=Ta (s:=s) (show _=V R by simpa using hj)
  have:=S5 (a:=vs) (v:=b) (b:= []) (f:=j*s+f) (ws:=ws) (by rw[h.length];omega)
  rw[rG,rG,hv] at this;rw[show (j+1)*s+f=s+(j*s+f) by rw[fS];omega,this]
  exact .cons q h2
def QL (h1:off+ws.length<=N) (h2:N<=vs.length):(eJ vs off ws).take N=eJ (vs.take N) off ws:=by
 show (vs.take off++ws++vs.drop (off+ws.length)).take N=(vs.take N).take off++ws++(vs.take N).drop (off+ws.length);have hl:(vs.take off++ws).length=off+ws.length:=by rw[gf,dE,fu (by omega)]
 rw[List.take_append,iT (by omega),hl,wx,lX,fu (by omega)]
def avO {p:Nat} (h:off+ws.length<=vs.length):(eJ vs off ws)[p]? =if p<off then vs[p]? else if p<off+ws.length then ws[p-off]? else vs[p]? :=by
 show (vs.take off++ws++vs.drop (off+ws.length))[p]? =_;have hl:(vs.take off).length=off:=by rw[dE];omega
 rw[lr];by_cases h1:p<off
 ·rw[aF h1,pE (by omega),fw,aF h1]
 ·rw[aC h1,nY (by omega),hl]
  by_cases h2:p<off+ws.length
  ·rw[aF h2,pE (by omega)]
  ·rw[aC h2,nY (by omega),fh]
   congr 1;omega
def Rel.bY (r:Rel F g Y c s T H) {K:Nat} {z:Bool} {e sz:Nat} {l:ep} {Q:bz} {o:fq} (hb:lk K s.bs=V (.bY z e sz l Q o)):(Q= []/\o= []/\(g K).b=B/\Y K= [])\/
  ((g K).b=M/\∃svs L,Y K=((g K).n,.cells e svs)::L/\H (g K).n=V (.cells e svs)/\(z=M->Q≠ [])/\(∀r∈Q,r.length=sz)/\zQ e sz Q.length svs.length (g K).c/\TR F l (svs.take (Q.length*sz)) Q L/\HoA F g svs o):=by
 obtain ⟨q,_,q3⟩:=r.bx K _ hb;generalize Y K=L at q q3;cases q with
 |nil h=>exact .inl ⟨rfl,rfl,h,rfl⟩
 |bY h1 h2 h3 h4 h5 h6=>exact .inr ⟨h1,_,_,rfl,(q3 (_,_) (by simp)).1,h2,h3,h4,h5,h6⟩
def Rel.row (r:Rel F g Y c s T H) {e:Nat} {l:ep} {Q:bz} {R:bc} {o:fq} (hb:lk K s.bs=V (.bY z e sz l Q o)) (hj:Q[j]? =V R):
  (g K).b=M/\∃svs L,Y K=((g K).n,.cells e svs)::L/\H (g K).n=V (.cells e svs)/\(∀r∈Q,r.length=sz)/\zQ e sz Q.length svs.length (g K).c/\TR F l (svs.take (Q.length*sz)) Q L/\HoA F g svs o/\dK F lU ((svs.drop (j*sz)).take sz) (JG l R)/\R.length=sz/\j*sz+sz<=svs.length:=by
 rcases r.bY hb with ⟨rfl,_⟩|⟨h1,svs,L,h2,h3,_,h4,h5,h6,h7⟩
 ·cases hj
 ·obtain ⟨L0,q⟩:=h6.at h4 hj;have hle:=Ta (s:=sz) hj;rw[wx,lX,fu (by omega)] at q
  exact ⟨h1,svs,L,h2,h3,h4,h5,h6,h7,q.see,h4 R (bU hj),kP hle (oU h5)⟩
structure cJ where
 need:Prop
 got:Prop
 pf:got
def eqO (a b:Nat):cJ:=⟨a=b,a=a,rfl⟩
structure nc where
 BN:List cJ
 s:LS
 x:AV
 W:bP
def jA:List cJ->Prop
 | []=>True
 |q::l=>q.need/\jA l
def sd (E:Env) (pn:Nat->Bool) (op:Op) (s:LS) (r:nc):Prop:=jA r.BN->Ok E pn op s r.s r.x r.W
def eqH (j sz:Nat):bP->fq->List cJ
 |f::fs,p::o=>eqO p.1 (p8 (A' j sz) f)::eqH j sz fs o
 |_,_=> []
def aAZ (R:bc):bP->fq->bc
 |f::fs,p::o=>aAZ (R.set f p.2) fs o
 |_,_=>R
def dK.set:∀{vs xs} {i:Nat} {v:SV} {x:AV},dK F g vs xs->vs[i]? =V v->VA F g v x->dK F g vs (xs.set i x)
 |_,_,_,_,_,.nil,_,_=>.nil
 |_,_,0,_,_,.cons _ t,h,k=>by obtain rfl:=lp (show V _=V _ from h);exact .cons k t
 |_,_,i+1,_,_,.cons h t,hi,k=>.cons h (t.set (by simpa using hi) k)
def amX {svs:bf} {j sz:Nat}:∀{fs:bP} {o:fq} {R:bc},dK F g ((svs.drop (j*sz)).take sz) R->HoA F g svs o->(∀f∈fs,f<sz)->jA (eqH j sz fs o)->dK F g ((svs.drop (j*sz)).take sz) (aAZ R fs o)
 | [],_,_,q,_,_,_=>q
 |_::_,[],_,q,_,_,_=>q
 |f::fs,p::o,R,q,ho,hf,ha=>by
  obtain ⟨h1,h2⟩:p.1=j*sz+f/\jA (eqH j sz fs o):=ha;obtain ⟨v,v1,v2⟩:=ho p (by simp)
  refine amX (fs:=fs) (o:=o) (q.set (i:=f) ?_ v2) (λp hp=>ho p (dW _ hp)) (λf hf'=>hf f (dW _ hf')) h2
  rw[fw,aF (hf f (by simp)),fh,<-h1]
  exact v1
def abC (sz:Nat):bP->Bool
 | []=>M
 |f::l=>kN (J' f) sz&&abC sz l
def agE {sz:Nat}:∀{l:bP},abC sz l=M->∀f∈l,f<sz
 |_::_,h,f,hf=>by
  have h:=j4.1 (show (kN (J' _) sz&&abC sz _)=M from h);rcases da.1 hf with rfl|hf
  ·exact (bN _ _).1 h.1
  ·exact agE h.2 f hf
def aAS (E:Env) (s:LS) (op:Op) (R:bc) (fs:bP) (ob:Prop->cJ):A nc:=
 match op with
 | .load t a=>ay (E.ty.get t) λi=>(match dN s.ts a with
  | .el K sz j f=>(match lk K s.bs with
   |some (.bY z e BF l Q o)=>aS (iX sz BF&&(kN (p8 f i.size) sz&&(abC sz fs&&(lN (JG l R)).isEmpty))) (ay (wJ i (((aAZ (JG l R) fs o).drop f).take i.size) 0) λx=>V ⟨ob (Q[j]? =V R)::eqH j sz fs o,s,x,[]⟩) G
   |_=>G)
  |_=>G)
 | .indexAddr t a ix=>ay (E.ty.get t) λi=>ay (oM i.desc) λe=>ay (E.ty.get e) λie=>(match dN s.ts a,dN s.ts ix with
  | .sl _ _ sz _ Q,.lit (.int _ (.lit n))=>aS (iX ie.size sz) (V ⟨[ob (B4 Q n=V R)],s,.kH R,[]⟩) G
  |_,_=>G)
 |_=>G
def agY {ie:TI} {id m:Nat} {c:Cp} (hi:E.ty.get t=V i) (he:oM i.desc=V e) (hie:E.ty.get e=V ie) (hk:k<m):same (rS E t (.sl id off m c) k)=V (.ptr id (off+k*ie.size),[]):=by
 unfold rS;rw[fp hi,sg he];show same (DN E e id off m k)=_;unfold DN;rw[hie,(bN _ _).2 hk];rfl
def aIK {op:Op} {R:bc} {ob:Prop->cJ} (gD:∀P,(ob P).need=P) {r:nc} (h:aAS E s op R fs ob=V r):sd E pn op s r:=by
 unfold aAS at h;split at h
 ·obtain ⟨i,hi,h⟩:=aq h;split at h
  ·rename_i K sz j f ha;split at h
   ·rename_i z e BF l Q o hb;obtain ⟨hc,h⟩:=aZ h;obtain ⟨x,hx,h⟩:=aq h;cases h;simp only[bJ] at hc;obtain ⟨h1,h2,h3,h4⟩:=hc;obtain rfl:=(beq_iff _ _).1 h1;have h2:f+i.size<=sz:=(bN _ _).1 h2;intro hh;obtain ⟨hj,hh⟩:=hh;rw[gD] at hj;exact .un (f:=λH v=>same (rR E H _ v)) (λ_ _ _=>rfl) ha (by simp) λ{F g Y c T H v} r hv=>by
     cases hv;obtain ⟨_,svs,L,_,hH,_,_,_,ho,q,hR,hl⟩:=r.row hb hj;obtain ⟨u,u1,u2⟩:=yz (((amX (q.tf h4) ho (agE h3) hh).drop f).take i.size) hx;rw[wx,lX,sS,fu (by omega)] at u1
     exact ⟨u,Pe hi (tN hH) (agm u1 (by omega)),u2⟩
   ·cases h
  ·cases h
 ·obtain ⟨i,hi,h⟩:=aq h;obtain ⟨e,he,h⟩:=aq h;obtain ⟨ie,hie,h⟩:=aq h;split at h
  ·rename_i m e' sz n0 Q _ n ha BZ;obtain ⟨h1,h⟩:=aZ h;cases h;obtain rfl:=(beq_iff _ _).1 h1;intro hh;have hR:=hh.1;rw[gD] at hR;obtain ⟨k,rfl,hk⟩:=QU hR;exact .bi (f:=λv u=>ay (oE u) λk=>same (rS E _ v k)) (λ_ _ _=>rfl) ha (by simp) BZ (by simp) λ{F g v w} hv hw=>by
    cases hw;cases hv with
    |nil=>cases hk
    |sle=>cases hk
    | @sl _ _ id off cp _ _ _ _ e2 svs hn hF hc hm hu hl q=>
    subst hn;have hle:=Ta (s:=ie.size) hk;have hRl:=hu R (bU hk);refine ⟨_,agY hi he hie (bK.1 hk).1,.kH (wP hF (by omega) (by omega)) (by omega) ?_⟩
    have:=(q.drop (k*ie.size)).take ie.size;rw[aCr hu hk,wx,lX,sS,fu (by omega)] at this
    rw[hRl];exact this
  ·cases h
 ·cases h
def are (E:Env) (s:LS) (op:Op):A nc:=
 match op with
 | .load t a=>ay (E.ty.get t) λi=>(match dN s.ts a with
  | .el K sz j f=>(match lk K s.bs with
   |some (.bY _ _ _ _ _ (p::_))=>aS (nq i.desc) G (V ⟨[eqO p.1 (p8 (A' j sz) f)],s,p.2,[]⟩)
   |_=>G)
  |_=>G)
 |_=>G
def aJr {op:Op} {r:nc} (h:are E s op=V r):sd E pn op s r:=by
 unfold are at h;split at h
 ·obtain ⟨i,hi,h⟩:=aq h;split at h
  ·rename_i K sz j f ha;split at h
   ·rename_i p o hb;rw[cI] at h;split at h
    ·cases h
    ·rename_i hg;cases h;intro hh;have hp:p.1=j*sz+f:=hh.1;exact .un (f:=λH v=>same (rR E H _ v)) (λ_ _ _=>rfl) ha (by simp) λ{F g Y c T H v} r hv=>by
      cases hv;rcases r.bY hb with ⟨_,h,_⟩|⟨_,svs,L,_,hH,_,_,_,_,ho⟩
      ·cases h
      ·obtain ⟨v,v1,v2⟩:=ho p (by simp)
       refine ⟨v,Pe hi (tN hH) ?_,v2⟩;unfold jr;rw[cI,aC hg,<-hp];exact v1
   ·cases h
  ·cases h
 ·cases h
def aBB (E:Env) (s:LS) (op:Op) (k:Nat) (ob:Prop->cJ):A nc:=
 match op with
 | .indexAddr t a ix=>ay (E.ty.get t) λi=>ay (oM i.desc) λe=>ay (E.ty.get e) λie=>(match dN s.ts a,dN s.ts ix with
  | .ms K sz lo n,.lit (.int _ (.lit m))=>aS (iX ie.size sz) (V ⟨[ob (m=(k:Int)/\k<n)],s,.el K sz (p8 lo k) 0,[]⟩) G
  |_,_=>G)
 |_=>G
def aJq {op:Op} {ob:Prop->cJ} (gD:∀P,(ob P).need=P) {r:nc} (h:aBB E s op k ob=V r):sd E pn op s r:=by
 unfold aBB at h;split at h
 ·obtain ⟨i,hi,h⟩:=aq h;obtain ⟨e,he,h⟩:=aq h;obtain ⟨ie,hie,h⟩:=aq h;split at h
  ·rename_i K sz lo n _ m ha BZ;obtain ⟨h1,h⟩:=aZ h;cases h;obtain rfl:=(beq_iff _ _).1 h1;intro hh;have hm:=hh.1;rw[gD] at hm;obtain ⟨rfl,hk⟩:=hm;exact .bi (f:=λv u=>ay (oE u) λk=>same (rS E _ v k)) (λ_ _ _=>rfl) ha (by simp) BZ (by simp) λ{F g v w} hv hw=>by
    cases hw;cases hv with
    |sA=>cases hk
    |zb=>cases hk
    |ms _ _ _ hb=>
    refine ⟨_,agY hi he hie hk,?_⟩;rw[<-fS];exact .el K ie.size (lo+k) 0 hb
  ·cases h
 ·cases h
def GQ (Q:bz) (j f:Nat) (xs:bc):A bz:=ay (Q[j]?) λR=>V (Q.set j (ic R f xs))
def aAG (E:Env) (s:LS) (op:Op) (Q':bz) (ob:Prop->cJ):A nc:=
 match op with
 | .store t a c=>cj (E.ty.get t) (E3 (dN s.ts c)) λi xs=>(match dN s.ts a with
  | .el K sz j f=>(match lk K s.bs with
   |some (.bY z e BF l Q o)=>aS (iX sz BF&&(iX xs.length i.size&&kN (p8 f xs.length) sz)) (V ⟨[ob (GQ Q j f (wH (l.drop f) xs)=V Q')],s.set K (.bY z e sz l Q' (EF (p8 (A' j sz) f) (l.drop f) xs)),.dq [],[K]⟩) G
   |_=>G)
  |_=>G)
 |_=>G
def Zm:∀{l:ep} {ws:bf} {xs:bc} (p:Nat),dK F g ws xs->∀q∈EF p l xs,p<=q.1/\∃v,ws[q.1-p]? =V v/\VA F g v q.2
 |_,_,_,_,.nil,_,h=>by cases h
 |l,_,_,p,.cons (v:=v) (vs:=vs) (x:=x) (xs:=xs) h t,q,hq=>by
  have ih:q∈EF (J' p) l.tail xs->p<=q.1/\∃w,(v::vs)[q.1-p]? =V w/\VA F g w q.2:=λhq=>by
   obtain ⟨h1,w,w1,w2⟩:=Zm (p+1) t q hq;exact ⟨by omega,w,by rw[show q.1-p=(q.1-(p+1))+1 by omega];exact w1,w2⟩
  have hq:q∈aS (tj (zi (l.headD .d) x)) (aS (tj x) (EF (J' p) l.tail xs) ((p,x)::EF (J' p) l.tail xs)) (EF (J' p) l.tail xs):=hq;rw[cI,cI] at hq;split at hq
  ·split at hq
   ·exact ih hq
   ·rcases da.1 hq with rfl|hq
    ·exact ⟨cS _,v,by rw[rF];rfl,h⟩
    ·exact ih hq
  ·exact ih hq
def aIj {op:Op} {Q':bz} {ob:Prop->cJ} (gD:∀P,(ob P).need=P) {r:nc} (h:aAG E s op Q' ob=V r):sd E pn op s r:=by
 unfold aAG at h;split at h
 ·obtain ⟨i,xs,hi,hx,h⟩:=bT h;split at h
  ·rename_i K sz j f ha;split at h
   ·rename_i z e BF l Q o hb;obtain ⟨hc,h⟩:=aZ h;cases h;simp only[bJ] at hc;obtain ⟨h1,h2,h3⟩:=hc;obtain rfl:=(beq_iff _ _).1 h1;have h3:f+xs.length<=sz:=(bN _ _).1 h3;intro hh;have hQ:=hh.1;rw[gD] at hQ;obtain ⟨R,hj,hQ⟩:=aq hQ;cases hQ;refine .wr hb λ{F g Y c T H} r=> ?_
    obtain ⟨v,v1,v2⟩:=r.val ha (by simp)
    obtain ⟨w,w1,w2⟩:=r.val rfl (Gj hx);obtain ⟨ws,u1,u2⟩:=Gi hx w2;cases v2;obtain ⟨sE,svs,L,hφ,hH,hu,hc,q,ho,_,hR,hl⟩:=r.row hb hj;obtain ⟨L',hs,q'⟩:=q.spl u2 h3 hu hj;have hle:=Ta (s:=sz) hj;have Ic:=u2.length;refine ⟨.dq [],.cells e svs,.cells e (eJ svs (j*sz+f) ws),L,L',hφ,λnew=> ?_,.dq .nil,.bY sE (λ_ e0=> ?_) (λr hr=> ?_) ?_ ?_ (λp hp=> ?_),hs⟩
    ·show two T _ _ (λa v=>unit (xi E H _ v a))=_
     rw[two,v1,w1];exact aaa hi u1 hH (by rw[Ic,bJ];exact ⟨h2,(bN _ _).2 (show j*sz+f+xs.length<=svs.length by omega)⟩)
    ·have:=bH aa8 e0;rw[kp] at this;rw[sP.1 this] at hj;cases hj
    ·rcases W6 hr with hr|rfl
     ·exact hu r hr
     ·rw[YN (by rw[<-(lB.agh (F:=F) u2).length,Ic,hR];exact h3)];exact hR
    ·rw[kp,Cr (by omega)];exact hc
    ·rw[kp,QL (by omega) (oU hc)];exact q'
    ·obtain ⟨k1,v,k2,k3⟩:=Zm _ u2 p hp;have k1:j*sz+f<=p.1:=k1;have k2:ws[p.1-(j*sz+f)]? =V v:=k2;have:=(bK.1 k2).1;exact ⟨v,by rw[avO (by omega),aC (by omega),aF (by omega)];exact k2,k3⟩
   ·cases h
  ·cases h
 ·cases h
end
section
variable {F F':Hf} {g g':Gb} {Y:Nat->Ow} {c:Nat->cB} {s s':LS} {T:Tf} {H:Hf} {E:Env} {pn:Nat->Bool}
variable {z':Bool}
def pc (K:Nat) (x:AV):AV:=aS (mW K (kU x)) .undef x
def T4 (K:Nat) (x:AV):K∉kU (pc K x):=by
 unfold pc;rw[cI];split
 ·exact λhc=>by cases hc
 ·rename_i hx;exact λhc=>hx ((tT _ _).2 hc)
def Kl {x:AV} (q:VA F g v x):VA F g v (pc K x):=by
 unfold pc;rw[cI];split
 ·exact .undef v
 ·exact q
def ahA {K:Nat}:∀{xs:bc} {vs:bf},dK F g vs xs->dK F g vs (xs.map (pc K))
 |_,_,.nil=>.nil
 |_,_,.cons h t=>.cons (Kl h) (ahA t)
def Kk (K:Nat):∀(l:bc),K∉lN (l.map (pc K))
 | [],hc=>by cases hc
 |x::l,hc=>(eV.1 (show K∈kU (pc K x)++lN (l.map (pc K)) from hc)).elim (T4 K x) (Kk K l)
def Bx.pA (K:Nat):Bx->Bx
 | .flat e cs=>.flat e (cs.map (pc K))
 | .bY z e s l Q o=>.bY z e s l Q (o.map λp=>(p.1,pc K p.2))
 |b=>b
def LS.pA (s:LS) (K:Nat):LS:=⟨s.ts.map λp=>(p.1,pc K p.2),s.bs.map λp=>(p.1,p.2.pA K)⟩
def ayE (s:LS) (K:Nat):(s.pA K).free K:=by
 refine ⟨λt x hx=> ?_,λk b cR hb=> ?_⟩
 ·obtain ⟨y,_,rfl⟩:=wD.1 ((Eu (λ(_:Nat) (x:AV)=>pc K x) t s.ts).symm.trans hx)
  exact T4 K y
 ·obtain ⟨y,_,rfl⟩:=wD.1 ((Eu (λ(_:Nat) (b:Bx)=>b.pA K) k s.bs).symm.trans hb)
  cases y with
  |flat e cs=>exact Kk K cs
  |bY z e s l Q o=>
   show K∉lN ((o.map λp=>(p.1,pc K p.2)).map (·.2))
   rw[vC,show ((λp:Nat×AV=>p.2) ∘ λp:Nat×AV=>(p.1,pc K p.2))=pc K ∘ (·.2) from rfl,<-vC]
   exact Kk K _
  |_=>exact λhc=>by cases hc
def eQ.pA {b:Bx} {L:Ow} (K:Nat) (q:eQ F g k b L):eQ F g k (b.pA K) L:=by
 cases q with
 |flat q=>exact .flat (ahA q)
 |nil hb=>exact .nil hb
 |bY hb hz hu hc q ho=>
  refine .bY hb hz hu hc q λp hp=> ?_
  obtain ⟨p0,hp0,rfl⟩:=dJ.1 hp;obtain ⟨v,v1,v2⟩:=ho p0 hp0;exact ⟨v,v1,Kl v2⟩
 |map hk hv hw=>exact .map hk hv hw
 |iter=>exact .iter
def Rel.pA (r:Rel F g Y c s T H) (K:Nat):Rel F g Y c (s.pA K) T H:=r.aqe (ft:=λ_=>pc K) (fb:=λ_ b=>b.pA K) r.fr (λ_=>by unfold pc;rw[cI];split<;>rfl) (λ_ _ _ _=>Kl) λ_ _ _ _ q=>q.pA K
structure Srx where
 BN:List cJ
 R:bz
 o:Nat->fq
def ace (s:LS) (sz:Nat) (l:ep) (y:AV) (R:bz) (o:Nat->fq):Prop:=y≠ .undef/\∀{F:Hf} {g:Gb} {Y:Nat->Ow} {c:Nat->cB} {T:Tf} {H:Hf} {v:SV},Rel F g Y c s T H->VA F g v y->
 ∃xs,oZ H sz v=V (R.length,xs)/\TR F l xs R []/\(∀r∈R,r.length=sz)/\∀n,∀q∈o n,n<=q.1/\∃v,xs[q.1-n]? =V v/\VA F g v q.2
def afG {id:Nat} {cp:Cp} (hh:jy (H id) off (n*sz)=V (e,svs)) (hl:off+n*sz<=svs.length):oZ H sz (.sl id off n cp)=V (n,(svs.drop off).take (n*sz)):=by
 show BH H sz (.sl id off n cp)=_;unfold BH;refine E5 (a:=n) rfl (b:=((svs.drop off).take (n*sz))) ?_;show ln H id off (A' n sz)=_;unfold ln;rw[show jy (H id) off (A' n sz)=V (e,svs) from hh];show aS (kN (p8 off (A' n sz)) svs.length) (V ((svs.drop off).take (n*sz))) G=_;rw[show kN (p8 off (A' n sz)) svs.length=M from (bN _ _).2 hl]
def lB.dat:∀{vs xs L},lB F [] vs xs L->dK F lU vs xs
 |_,_,_,.nil=>.nil
 |_,_,_,.cons (v:=v) q t=>.cons (match q with| .d q=>q| .any _=>.undef v) (lB.dat t)
def TR.dat:∀{vs Q L},TR F [] vs Q L->dK F lU vs Q.flatten
 |_,_,_,.nil=>.nil
 |_,_,_,.cons q t=>by rw[qm];exact q.dat.append t.dat
def Ee {l:ep} (hv:v= .cr\/v= .sle):∃xs,oZ H sz v=V (([]:bz).length,xs)/\TR F l xs [] []/\(∀r∈([]:bz),r.length=sz)/\∀n,∀q∈(λ_=> []:Nat->fq) n,n<=q.1/\∃v,xs[q.1-n]? =V v/\VA F g v q.2:=
 ⟨[],by rcases hv with rfl|rfl<;>rfl,.nil,λ_ hr=>(by cases hr),λ_ _ hq=>by cases hq⟩
def aAL {m e:Nat} {R:bz}:ace s sz [] (.sl m e sz n R) R (λ_=> []):=⟨by simp,λr hv=>by
 cases hv with
 |nil=>exact Ee (.inl rfl)
 |sle=>exact Ee (.inr rfl)
 |sl hn hF hc hm hu hl q=>subst hn;exact ⟨_,afG (xw (λi o h=>(r.fr i o h).1) hF) hl,.te hu q,hu,λ_ _ hq=>by cases hq⟩⟩
def aIG {lo:Nat} {Q R:bz} {o:fq} (hb:lk K s.bs=V (.bY z e sz [] Q o)) (hR:(Q.drop lo).take n=R) (hn:lo+n<=Q.length):ace s sz [] (.ms K sz lo n) R (λ_=> []):=⟨by simp,λ{F g Y c T H v} r hv=>by
 subst hR;have aEB:∀{n},n=0->(Q.drop lo).take n= []:=λe=>by rw[e,yV]
 cases hv with
 |sA=>rw[aEB rfl];exact Ee (.inl rfl)
 |zb=>rw[aEB rfl];exact Ee (.inr rfl)
 |ms _ _ _ qZ=>
  rcases r.bY hb with ⟨_,_,h,_⟩|⟨_,svs,L,_,hH,_,hu,hc,q,_⟩
  ·rw[h] at qZ;cases qZ
  ·have hl:=oU hc;have hle:lo*sz+n*sz<=Q.length*sz:=by rw[<-fS];exact jn _ hn
   have hlen:((Q.drop lo).take n).length=n:=by rw[dE,jq];omega
   have oA:∀r∈(Q.drop lo).take n,r.length=sz:=λr hr=>hu r (oG (og hr))
   refine ⟨_,by rw[hlen];exact afG (tN hH) (by omega),.te oA ?_,oA,λ_ _ hq=>by cases hq⟩
   have:=(q.dat.drop (lo*sz)).take (n*sz);rwa[wx,lX,fu (by omega),<-ahB hu] at this⟩
def aAK {l:ep} {cs:bc} (hb:lk K s.bs=V (.flat e cs)) (hl:cs.length=sz):ace s sz l (.ms K sz 0 1) [wH l cs] (λn=>EF n l cs):=⟨by simp,λ{F g Y c T H v} r hv=>by
 cases hv with
 |ms _ _ _ qZ=>
 obtain ⟨svs,_,q,hH⟩:=r.flat hb;have Ig:svs.length=sz:=by rw[q.length,hl]
 refine ⟨svs,?_,by simpa using TR.cons (lB.agh (l:=l) q) .nil,λr hr=> ?_,λn=>Zm n q⟩
 ·rw[afG (tN hH) (by omega),ng,pF,iT (by omega)];rfl
 ·rw[gg.1 hr,<-(lB.agh (F:=F) (l:=l) q).length,Ig]⟩
def YM (s:LS) (sz:Nat) (l:ep) (y:AV) (f9:bz->Prop) (R:bz) (ob:Prop->cJ):A Srx:=
 match y with
 | .lit .cr=>V ⟨[ob (f9 [])],[],λ_=> []⟩
 | .sl _ _ BF _ Q=>aS (iX BF sz&&l.isEmpty) (V ⟨[ob (f9 Q)],Q,λ_=> []⟩) G
 | .ms K BF lo n=>
  (match lk K s.bs with
  |some (.bY _ _ sz'' [] Q _)=>aS (iX BF sz&&(iX sz'' sz&&l.isEmpty)) (V ⟨[ob (f9 R/\(Q.drop lo).take n=R/\lo+n<=Q.length)],R,λ_=> []⟩) G
  |some (.flat _ cs)=>aS (iX BF sz&&(iX cs.length sz&&(iX lo 0&&iX n 1))) (V ⟨[ob (f9 [wH l cs])],[wH l cs],λn=>EF n l cs⟩) G
  |_=>G)
 |_=>G
def O1 {l:ep} {y:AV} {f9:bz->Prop} {R:bz} {ob:Prop->cJ} (gD:∀P,(ob P).need=P) {q:Srx} (h:YM s sz l y f9 R ob=V q) (hh:jA q.BN):f9 q.R/\ace s sz l y q.R q.o:=by
 unfold YM at h;split at h
 ·cases h;have h1:=hh.1;rw[gD] at h1;exact ⟨h1,by simp,λr hv=>by cases hv;exact Ee (.inl rfl)⟩
 ·obtain ⟨h1,h⟩:=aZ h;cases h;rw[bJ] at h1;have h2:=hh.1;rw[gD] at h2;obtain rfl:=(beq_iff _ _).1 h1.1;obtain rfl:l= []:=by simpa using h1.2
  exact ⟨h2,aAL⟩
 ·split at h
  ·rename_i hb;obtain ⟨h1,h⟩:=aZ h;cases h;simp only[bJ] at h1;have h2:=hh.1;rw[gD] at h2;obtain rfl:=(beq_iff _ _).1 h1.1;obtain rfl:=(beq_iff _ _).1 h1.2.1;obtain rfl:l= []:=by simpa using h1.2.2
   exact ⟨h2.1,aIG hb h2.2.1 h2.2.2⟩
  ·rename_i hb;obtain ⟨h1,h⟩:=aZ h;cases h;simp only[bJ] at h1;have h2:=hh.1;rw[gD] at h2;obtain rfl:=(beq_iff _ _).1 h1.1;obtain rfl:=(beq_iff _ _).1 h1.2.2.1;obtain rfl:=(beq_iff _ _).1 h1.2.2.2;exact ⟨h2,aAK hb ((beq_iff _ _).1 h1.2.1)⟩
  ·cases h
 ·cases h
structure Lj (w:Bool) (Q:bz) (n:Nat) (Q':bz) (n':Nat) (R:bz):Prop where
 hw:w=M->n=Q.length
 hn:n<=Q.length
 n6:n<=1000000
 r6:R.length<=1000000
 eq:Q.take n++R=Q'
 len:Q'.length=n'
def Nu {m:Nat} {ie:TI} (hi:E.ty.get t=V i) (hd:oM i.desc=V e) (he:E.ty.get e=V ie) (qe:mL ie=M) (hw:oZ H ie.size w=V (m,xs)) (hm:m<=1000000):
  mP E H new t v w=aS (iX m 0) (aS (MG v) (V (v,[])) G) (r9 v H new e ie.size m xs):=by
 unfold mP;rw[fp hi,fp hd];unfold PD;rw[fp he,qe];show ay (oZ H ie.size w) (λq=>aS (kN q.1 1000000) (aS (iX q.1 0) (aS (MG v) (V (v,[])) G) (r9 v H new e ie.size q.1 q.2)) G)=_
 rw[fp hw];show aS (kN m 1000000) _ G=_;rw[(bN _ _).2 hm]
def asu (r:Rel F g Y c s T H) (hn:H new=G) {l:ep} {Q R:bz} {o:fq} {oR:Nat->fq} {ie:TI} (hi:E.ty.get t=V i) (hd:oM i.desc=V e) (he:E.ty.get e=V ie) (qe:mL ie=M) (hv:VA F g v (.ms K ie.size 0 n)) (hw:oZ H ie.size w=V (R.length,xs)) (hx:TR F l xs R []) (hu:∀x∈R,x.length=ie.size) (hoR:∀n,∀q∈oR n,n<=q.1/\∃v,xs[q.1-n]? =V v/\VA F g v q.2) (hko:K∉lN ((oR (n*ie.size)).map (·.2))) (hq:n<=Q.length) (Ac:n<=1000000) (hR:R.length<=1000000) (hz':z'=M->z=M/\n=Q.length) (hb:lk K s.bs=V (.bY z e ie.size l Q o)):
  ∃v' us gk L',mP E H new t v w=V (v',us)/\VA F (kS g K gk) v' (.ms K ie.size 0 (Q.take n++R).length)/\eQ F (kS g K gk) K (.bY z' e ie.size l (Q.take n++R) (oR (n*ie.size))) L'/\(L'.map (·.1)).Nodup/\(∀p∈L',hZ H us p.1=V p.2/\(c p.1=V K\/H p.1=G))/\(∀u∈us,u.1=new\/c u.1=V K)/\(hZ H us new=G\/new∈L'.map (·.1)):=by
 have hlen:(Q.take n++R).length=n+R.length:=by rw[gf,dE];omega
 have dg:xs.length=R.length*ie.size:=hx.length hu;have same:kS g K (g K)=g:=funext λk=>by unfold kS;split<;>simp_all
 have Ig:MG v=M:=by cases hv<;>rfl
 obtain ⟨_,nd,own⟩:=r.bx K _ hb;rw[Nu hi hd he qe hw hR];have hho:∀{gk:GK} {old tl:bf},old.length=n*ie.size->HoA F (kS g K gk) (old++xs++tl) (oR (n*ie.size)):=λ{gk old tl} ho p hp=>by
  obtain ⟨h1,v,v1,v2⟩:=hoR _ p hp;have:=(bK.1 v1).1;refine ⟨v,?_,v2.same (.refl F) λk hk=>show kS g K gk k=g k from aC λ(ek:k=K)=>hko (ek ▸ Da (dJ.2 ⟨p,hp,rfl⟩) k hk)⟩
  rw[pE (by rw[gf];omega),nY (by omega),ho]
  exact v1
 by_cases hR0:R.length=0
 ·obtain rfl:R= []:=sP.1 hR0;have gE:oR (n*ie.size)= []:=WZ.2 λp hp=>by
   obtain ⟨_,v,v1,_⟩:=hoR _ p hp;rw[sP.1 (show xs.length=0 by rw[dg];exact ng _)] at v1
   cases v1
  rw[rG,gE,dE,fu hq];have go:∀L',eQ F g K (.bY z' e ie.size l (Q.take n) []) L'->L'.Sublist (Y K)->∃v' us gk L',aS (iX ([]:bz).length 0) (aS (MG v) (V (v,[])) G) (r9 v H new e ie.size ([]:bz).length xs)=V (v',us)/\VA F (kS g K gk) v' (.ms K ie.size 0 n)/\eQ F (kS g K gk) K (.bY z' e ie.size l (Q.take n) []) L'/\(L'.map (·.1)).Nodup/\(∀p∈L',hZ H us p.1=V p.2/\(c p.1=V K\/H p.1=G))/\(∀u∈us,u.1=new\/c u.1=V K)/\(hZ H us new=G\/new∈L'.map (·.1)):=λL' nP hs=>
   ⟨v,[],g K,L',by rw[Ig];rfl,by rw[same];exact hv,by rw[same];exact nP,(hs.map _).nodup nd,λp hp=>⟨(own p (hs.subset hp)).1,.inl (own p (hs.subset hp)).2⟩,λ_ hu=>(by cases hu),.inl hn⟩
  rcases r.bY hb with ⟨rfl,_,MY,hφ⟩|⟨sE,svs,L,hφ,hH,hz,uD,hc,q,_⟩
  ·exact go [] (by simpa using .nil MY) (OB _)
  ·obtain ⟨L',hs,q'⟩:=q.take n uD;have hle:=jn ie.size hq;rw[lX,fu hle] at q';refine go _ (.bY sE (λe0=> ?_) (λr hr=>uD r (og hr)) ?_ ?_ λp hp=>by cases hp) (hφ ▸ hs.cons_cons _)
   ·rw[(hz' e0).2,nF];exact hz (hz' e0).1
   ·rw[dE,fu hq];cases hκ:(g K).c with
    |k m=>rw[hκ] at hc;exact ⟨kP hq hc.1,hc.2⟩
    |u e'=>rw[hκ] at hc;exact ⟨hc.1,kP hle hc.2⟩
   ·rw[dE,fu hq];exact q'
 rw[show iX R.length 0=B from by
  cases hx:iX R.length 0 with
  |false=>rfl
  |true=>exact absurd ((beq_iff _ _).1 hx) hR0]
 show ∃v' us gk L',r9 v H new e ie.size R.length xs=V (v',us)/\_;have cR:Q.take n++R≠ []:=λhc=>hR0 (by rw[(alV.1 hc).2];rfl)
 have fresh:∀{us:hJ} {old:bf} {L0:Ow},TR F l old (Q.take n) L0->old.length=n*ie.size->(∀r∈Q.take n,r.length=ie.size)->L0.Sublist (Y K)->hZ H us new=V (.cells e (old++xs))->(∀p∈L0,hZ H us p.1=H p.1)->(∀u∈us,u.1=new\/c u.1=V K)->r9 v H new e ie.size R.length xs=V (.sl new 0 (p8 n R.length) (.u e),us)->
   ∃v' us gk L',r9 v H new e ie.size R.length xs=V (v',us)/\VA F (kS g K gk) v' (.ms K ie.size 0 (Q.take n++R).length)/\eQ F (kS g K gk) K (.bY z' e ie.size l (Q.take n++R) (oR (n*ie.size))) L'/\(L'.map (·.1)).Nodup/\(∀p∈L',hZ H us p.1=V p.2/\(c p.1=V K\/H p.1=G))/\(∀u∈us,u.1=new\/c u.1=V K)/\(hZ H us new=G\/new∈L'.map (·.1)):=λ{us old L0} q ho uD hs rl hL oA EJ=>by
  have eg:kS g K ⟨new,.u e,M⟩ K=⟨new,.u e,M⟩:=aF rfl;have hl:(old++xs).length=(Q.take n++R).length*ie.size:=by rw[gf,ho,dg,hlen,fS]
  refine ⟨_,us,⟨new,.u e,M⟩,(new,.cells e (old++xs))::L0,EJ,by rw[hlen];exact sA eg,?_,?_,λp hp=> ?_,oA,.inr (by simp)⟩
  ·have:=eQ.bY (F:=F) (g:=kS g K ⟨new,.u e,M⟩) (K:=K) (z:=z') (e:=e) (s:=ie.size) (l:=l) (Q:=Q.take n++R) (o:=oR (n*ie.size)) (svs:=old++xs) (L:=L0) (by rw[eg]) (λ_=>cR) (λx hx=>(eV.1 hx).elim (uD x) (hu x)) (by rw[eg];exact ⟨rfl,by rw[hl];exact cS _⟩) (by rw[<-hl,nF];simpa using q.append hx) (by simpa using hho (tl:= []) ho)
   rwa[eg] at this
  ·rw[ki,pG];refine ⟨λhm=> ?_,(hs.map _).nodup nd⟩
   obtain ⟨p,hp,e0⟩:=dJ.1 hm;have:=(own p (hs.subset hp)).1;rw[show p.1=new from e0,hn] at this;cases this
  ·rcases da.1 hp with rfl|hp
   ·exact ⟨rl,.inr hn⟩
   ·exact ⟨(hL p hp).trans (own p (hs.subset hp)).1,.inl (own p (hs.subset hp)).2⟩
 have one:∀{x:SO} {i:Nat},hZ H [(new,V x)] i=if i=new then V x else H i:=λ{x i}=>rfl
 rcases r.bY hb with ⟨rfl,_,MY,hφ⟩|⟨sE,svs,L,hφ,hH,hz,uD,hc,q,_⟩
 ·have FZ:v= .cr:=by
   cases hv with
   |sA=>rfl
   |zb _ _ h0=>cases h0
   |ms _ _ _ qZ=>rw[MY] at qZ;cases qZ
  subst FZ;obtain rfl:n=0:=Dy.1 hq;exact fresh (us:= [(new,V (.cells e xs))]) (old:= []) (L0:= []) (by simpa using .nil) (by simp) (λr hr=>by simp at hr) (OB _) (by rw[one,aF rfl];rfl) (λp hp=>by cases hp) (λu hu=>.inl (by rw[gg.1 hu])) (by rw[show p8 0 R.length=R.length from cq _];rfl)
 ·have yF:v= .sl (g K).n 0 n (g K).c:=by
   cases hv with
   |sA s qZ=>rw[sE] at qZ;cases qZ
   |zb _ _ h0=>cases h0
   |ms=>rw[ng];cases (g K).c<;>rfl
  have hl:=oU hc;have hle:=jn ie.size hq;have ho:(svs.take (n*ie.size)).length=n*ie.size:=by rw[dE];omega
  obtain ⟨L0,hs,q'⟩:=q.take n uD;rw[lX,fu hle] at q';have hut:∀r∈Q.take n,r.length=ie.size:=λr hr=>uD r (og hr)
  have hsK:L0.Sublist (Y K):=hφ ▸ hs.trans (List.sublist_cons_self _ _);rw[hφ] at nd own;have Zn:∀p∈L0,p.1≠(g K).n/\p.1≠new:=λp hp=>⟨λe0=>(pG.1 nd).1 (e0 ▸ dJ.2 ⟨p,hs.subset hp,rfl⟩),λe0=>by
   have:=(own p (dW _ (hs.subset hp))).1;rw[e0,hn] at this;cases this⟩
  have hcK:=(own _ kg).2;have hold:ln H (g K).n 0 (A' n ie.size)=V (svs.take (n*ie.size)):=by
   unfold ln;rw[hH];show aS (kN (p8 0 (A' n ie.size)) svs.length) (V ((svs.drop 0).take (n*ie.size))) G=_;rw[(bN _ _).2 (show p8 0 (A' n ie.size)<=svs.length by rw[show p8 0 (A' n ie.size)=n*ie.size from cq _];omega)]
   rfl
  have hto:r9 v H new e ie.size R.length xs=aca new e ie.size (g K).n 0 n (g K).c R.length xs (e,svs) (svs.take (n*ie.size)):=by
   rw[yF];show Gu H new e ie.size R.length xs (g K).n 0 n (g K).c=_;unfold Gu;rw[(bN _ _).2 Ac];show aS (abM n R.length (g K).c) _ _=_;rw[cI];split
   ·rename_i MV;rw[fp hold];cases hκ:(g K).c with
    |u e'=>rw[hκ] at MV;cases MV
    |k m=>
     rw[hκ] at MV;have MV:m<n+R.length:=(bN _ _).1 MV;show _=aS (kN (p8 n R.length) m) _ _;rw[show kN (p8 n R.length) m=B from by
      cases hx:kN (p8 n R.length) m with
      |false=>rfl
      |true=>exact absurd ((bN _ _).1 hx) (by show ¬n+R.length<=m;omega)]
   ·exact E5 (by rw[hH];rfl) hold
  cases hκ:(g K).c with
  |u e'=>
   rw[hκ] at hc hto;obtain ⟨rfl,CV⟩:=hc;refine fresh (us:= [((g K).n,G),(new,V (.cells e' (svs.take (n*ie.size)++xs)))]) q' ho hut hsK ?_ (λp hp=> ?_) (λu hu=> ?_) ?_
   ·show jB (jB H _) _ new=_;exact aF rfl
   ·show jB (jB H _) _ p.1=_;exact (aC (Zn p hp).2).trans (aC (Zn p hp).1)
   ·rcases da.1 hu with rfl|hu
    ·exact .inr hcK
    ·exact .inl (by rw[gg.1 hu])
   ·rw[hto];show aS (kN (p8 0 (A' n ie.size)) svs.length&&iX e' e') _ G=_;rw[(bN _ _).2 (show p8 0 (A' n ie.size)<=svs.length by rw[show p8 0 (A' n ie.size)=n*ie.size from cq _];omega),(beq_iff e' e').2 rfl]
    rfl
  |k m=>
   rw[hκ] at hc hto;obtain ⟨qE,yI⟩:=hc;have e1:aca new e ie.size (g K).n 0 n (.k m) R.length xs (e,svs) (svs.take (n*ie.size))=aS (kN (p8 n R.length) m) (aS (kN (p8 0 (A' (p8 n R.length) ie.size)) svs.length) (V (.sl (g K).n 0 (p8 n R.length) (.k m),[((g K).n,V (.cells e (eJ svs (p8 0 (A' n ie.size)) xs)))])) G) (C9 new e (p8 n R.length) (svs.take (n*ie.size)++xs) []):=rfl;rw[e1] at hto;cases nT:kN (p8 n R.length) m with
   |false=>
    refine fresh (us:= [(new,V (.cells e (svs.take (n*ie.size)++xs)))]) q' ho hut hsK (by rw[one,aF rfl]) (λp hp=>by rw[one,aC (Zn p hp).2]) (λu hu=>.inl (by rw[gg.1 hu])) (by rw[hto,nT];rfl)
   |true=>
    have hm:n+R.length<=m:=(bN _ _).1 nT;have aFO:(n+R.length)*ie.size<=svs.length:=by rw[yI];exact jn _ hm
    have hz0:p8 0 (A' n ie.size)=n*ie.size:=cq _;have hl3:(svs.take (n*ie.size)++xs).length=(Q.take n++R).length*ie.size:=by rw[gf,ho,dg,hlen,fS]
    rw[nT,(bN _ _).2 (show p8 0 (A' (p8 n R.length) ie.size)<=svs.length by rw[show p8 0 (A' (p8 n R.length) ie.size)=(n+R.length)*ie.size from cq _];exact aFO),hz0] at hto
    refine ⟨_,_,g K,((g K).n,.cells e (eJ svs (n*ie.size) xs))::L0,hto,?_,?_,?_,λp hp=> ?_,λu hu=>.inr (by rw[gg.1 hu];exact hcK),.inl ?_⟩
    ·rw[same,hlen];have:=VA.ms (F:=F) (g:=g) (K:=K) ie.size 0 (n+R.length) sE;rw[ng,hκ] at this;exact this
    ·have key:=eQ.bY (F:=F) (g:=kS g K (g K)) (K:=K) (z:=z') (e:=e) (s:=ie.size) (l:=l) (Q:=Q.take n++R) (o:=oR (n*ie.size)) (svs:=eJ svs (n*ie.size) xs) (L:=L0) (by rw[same];exact sE) (λ_=>cR) (λx hx=>(eV.1 hx).elim (hut x) (hu x)) (by rw[same,hκ,hlen,Cr (by rw[dg,<-fS];exact aFO)];exact ⟨hm,yI⟩) (by
      rw[<-hl3,show (eJ svs (n*ie.size) xs)=svs.take (n*ie.size)++xs++svs.drop (n*ie.size+xs.length) from rfl,W3];simpa using q'.append hx) (hho ho)
     rwa[same] at key ⊢
    ·exact pG.2 ⟨λhm=>(pG.1 nd).1 ((hs.map _).subset hm),(hs.map _).nodup (pG.1 nd).2⟩
    ·rcases da.1 hp with rfl|hp
     ·exact ⟨aF rfl,.inl hcK⟩
     ·have:=own p (dW _ (hs.subset hp));exact ⟨(aC (Zn p hp).1).trans this.1,.inl this.2⟩
    ·exact (aC λ(e0:new=(g K).n)=>by rw[e0,hH] at hn;cases hn).trans hn
def Xb (b:Builtin) (op:Op):A ((C'×C')×ll×ll):=
 match op with
 | .call c=>(match c.callee with
  | .builtin b'=>aS (U (b'=b)) (match c.args.toList,c.argTypes.toList with
   | [a,y],[t1,t2]=>V ((a,y),t1,t2)
   |_,_=>G) G
  |_=>G)
 |_=>G
def FD {b:Builtin} {op:Op} (h:Xb b op=V q):∃c,op= .call c/\c.callee= .builtin b/\c.args.toList= [q.1.1,q.1.2]/\c.argTypes.toList= [q.2.1,q.2.2]:=by
 unfold Xb at h;split at h
 ·rename_i c;split at h
  ·rename_i b' hc;obtain ⟨h1,h2⟩:=aZ h;clear h;have e:b'=b:=by simpa using h1
   split at h2
   ·rename_i ha ht;cases h2;exact ⟨c,rfl,by rw[hc,e],ha,ht⟩
   ·cases h2
  ·cases h
 ·cases h
def aCL (s:LS) (y:AV) (d:cB):A ((Nat×Nat)×Nat):=
 match y with
 | .ms K sz 0 n=>V ((K,n),sz)
 | .lit .cr=>ay d λK=>(match lk K s.bs with
  |some (.bY M _ sz _ [] _)=>V ((K,0),sz)
  |_=>G)
 |_=>G
def aJv {y:AV} {q:(Nat×Nat)×Nat} (h:aCL s y d=V q):y≠ .undef/\∀{F:Hf} {g:Gb} {Y:Nat->Ow} {c:Nat->cB} {T:Tf} {H:Hf} {v:SV},Rel F g Y c s T H->VA F g v y->VA F g v (.ms q.1.1 q.2 0 q.1.2):=by
 unfold aCL at h;split at h
 ·cases h;exact ⟨by simp,λ_ hv=>hv⟩
 ·obtain ⟨K,_,h⟩:=aq h;split at h
  ·rename_i hb;cases h;refine ⟨by simp,λr hv=> ?_⟩
   cases hv;rcases r.bY hb with ⟨_,_,MY,_⟩|⟨_,_,_,_,_,hz,_⟩
   ·exact .sA _ MY
   ·exact absurd rfl (hz rfl)
  ·cases h
 ·cases h
def aDf (E:Env) (pn:Nat->Bool) (s:LS) (d:cB) (op:Op) (w:Bool) (f9:bz->Nat->bz->Prop) (fQ:bz->bz->bz) (fn:Nat->Nat) (kC:bz->Bool) (R:bz) (ob:Prop->cJ):A nc:=
 ay (Xb .append op) λq=>cj (Di E q.2.1) (E.ty.get q.2.2) λp i2=>ay (aCL s (dN s.ts q.1.1) d) λk=>(match lk k.1.1 s.bs with
  |some (.bY z e sz l Q _)=>ay (YM s p.2.size l (dN s.ts q.1.2) (f9 Q k.1.2) R ob) λsc=>
   aS ((mL p.2&&(Az i2.desc&&kC sc.R))&&((iX k.2 p.2.size&&(iX sz p.2.size&&iX e p.1))&&(!pn k.1.1 && !mW k.1.1 (lN ((sc.o (A' k.1.2 p.2.size)).map (·.2))))))
    (V ⟨sc.BN,(s.pA k.1.1).set k.1.1 (.bY (w&&z) e sz l (fQ Q sc.R) (sc.o (A' k.1.2 p.2.size))),.ms k.1.1 sz 0 (fn k.1.2),[k.1.1]⟩) G
  |_=>G)
def aoo {op:Op} {w:Bool} {f9:bz->Nat->bz->Prop} {fQ:bz->bz->bz} {kC:bz->Bool} {R:bz} {ob:Prop->cJ} (hAP:∀Q n R,f9 Q n R->kC R=M->Lj w Q n (fQ Q R) (fn n) R) (gD:∀P,(ob P).need=P) {r:nc} (h:aDf E pn s d op w f9 fQ fn kC R ob=V r):sd E pn op s r:=by
 obtain ⟨⟨⟨a,y⟩,t1,t2⟩,h1,h0⟩:=aq h;clear h;obtain ⟨cl,rfl,qE,yI,hc3⟩:=FD h1;obtain ⟨p,i2,h2,h3,h⟩:=bT h0;clear h0;obtain ⟨⟨⟨K,n⟩,sz0⟩,h4,h⟩:=aq h;dsimp only at h;split at h
 ·rename_i z e sz l Q o hb;obtain ⟨sc,h5,h⟩:=aq h;obtain ⟨h6,h⟩:=aZ h;cases h;simp only[bJ] at h6;obtain ⟨⟨k1,k2,k8⟩,⟨k3,k4,k5⟩,k6,k7⟩:=h6;intro hh;obtain ⟨hA0,hS⟩:=O1 gD h5 hh;have hA:=hAP _ _ _ hA0 k8;obtain ⟨d1,d2⟩:=aJv h4;obtain rfl:=(beq_iff _ _).1 k3;obtain rfl:=(beq_iff _ _).1 k4;obtain rfl:=(beq_iff _ _).1 k5;obtain ⟨i,hi,he,hie⟩:=rZ h2;rw[<-hA.len,<-hA.eq];refine .boxG (λr=>r.pA K) λ{F g Y c T H new} r hn=> ?_
  obtain ⟨v,v1,v2⟩:=r.val rfl d1;obtain ⟨x,w1,w2⟩:=r.val rfl hS.1;obtain ⟨xs,x1,x2,x3,x4⟩:=hS.2 r w2;obtain ⟨v',us,gk,L',u1,u2,u3,u4,u5,u6,u7⟩:=asu (z':=w&&z) r hn hi he hie k1 (d2 r v2) x1 x2 x3 x4 ((λhm=>Pb (by simpa using k7) K hm rfl)) hA.hn hA.n6 hA.r6 (λhz=>by rw[bJ] at hz;exact ⟨hz.2,hA.hw hz.1⟩) hb
  refine ⟨v',us,gk,L',?_,u2,u3,u4,u5,u6,.inr ⟨by simpa using k6,ayE s K⟩,u7⟩
  show pI E T H new cl=_;unfold pI;rw[qE];show ay (gj T cl.args.toList) (λaa=>nK E H new .append aa cl.argTypes.toList)=_
  rw[yI,hc3];have e1:gj T [a,y]=V [v,x]:=by
   show cj (dt T a) (cj (dt T y) (V []) λv l=>V (v::l)) (λv l=>V (v::l))=_
   rw[v1,w1];rfl
  rw[e1];show ay (E.ty.get t2) (λi=>aS (Az i.desc) (mP E H new t1 v x) G)=_
  rw[fp h3,k2];exact u1
 ·cases h
def appI (E:Env) (pn:Nat->Bool) (s:LS) (d:cB) (op:Op) (w:Bool) (R Q':bz) (n':Nat) (ob:Prop->cJ):A nc:=aDf E pn s d op w (λQ n R=>Lj w Q n Q' n' R) (λ_ _=>Q') (λ_=>n') (λ_=>M) R ob
def TapP (Q:bz) (n:Nat):Prop:=n=Q.length/\n<=1000000
def tapI (E:Env) (pn:Nat->Bool) (s:LS) (d:cB) (op:Op) (ob:Prop->cJ):A nc:=aDf E pn s d op M (λQ n _=>TapP Q n) (λQ R=>Q++R) J' (λR=>iX R.length 1) [] ob
def aJQ {op:Op} {w:Bool} {R Q':bz} {ob:Prop->cJ} (gD:∀P,(ob P).need=P) {r:nc} (h:appI E pn s d op w R Q' n' ob=V r):sd E pn op s r:=aoo (λ_ _ _ h _=>h) gD h
def aIi {op:Op} {ob:Prop->cJ} (gD:∀P,(ob P).need=P) {r:nc} (h:tapI E pn s d op ob=V r):sd E pn op s r:=aoo (λQ n R h hc=>by
 obtain ⟨rfl,h6⟩:=h;have hc:R.length=1:=(beq_iff _ _).1 hc;exact ⟨λ_=>rfl,cS _,h6,by omega,by rw[nF],by rw[gf,hc]⟩) gD h
def aDJ (Q Q':bz) (lo n m:Nat) (R:bz):Prop:=lo+n<=Q.length/\1<=n/\m=min R.length n/\Q'=Q.take lo++(R.take m++Q.drop (lo+m))
def cpyI (E:Env) (s:LS) (op:Op) (R Q':bz) (m:Nat) (ob:Prop->cJ):A nc:=
 ay (Xb .copy op) λq=>ay (Di E q.2.1) λp=>(match dN s.ts q.1.1 with
  | .ms K sz lo n=>(match lk K s.bs with
   |some (.bY z e BF [] Q [])=>ay (YM s p.2.size [] (dN s.ts q.1.2) (aDJ Q Q' lo n m) R ob) λsc=>aS (mL p.2&&(iX sz p.2.size&&iX BF p.2.size)) (V ⟨sc.BN,s.set K (.bY z e BF [] Q' []),.int .i64 (m:Int),[K]⟩) G
   |_=>G)
  |_=>G)
def aJB {op:Op} {R Q':bz} {m:Nat} {ob:Prop->cJ} (gD:∀P,(ob P).need=P) {r:nc} (h:cpyI E s op R Q' m ob=V r):sd E pn op s r:=by
 obtain ⟨⟨⟨a,y⟩,t1,t2⟩,h1,h0⟩:=aq h;clear h;obtain ⟨cl,rfl,qE,yI,hc3⟩:=FD h1;obtain ⟨p,h2,h⟩:=aq h0;clear h0;dsimp only at h;split at h
 ·rename_i K sz lo n ha;split at h
  ·rename_i z e BF Q hb;obtain ⟨sc,h5,h⟩:=aq h;obtain ⟨h6,h⟩:=aZ h;cases h;simp only[bJ] at h6;obtain ⟨k1,k2,k3⟩:=h6;intro hh;obtain ⟨⟨q1,q2,q3,q4⟩,hS⟩:=O1 gD h5 hh;obtain rfl:=(beq_iff _ _).1 k2;obtain rfl:=(beq_iff _ _).1 k3;obtain ⟨i,hi,he,hie⟩:=rZ h2;refine .wr hb λ{F g Y c T H} r=> ?_
   obtain ⟨v,v1,v2⟩:=r.val ha (by simp)
   obtain ⟨x,w1,w2⟩:=r.val rfl hS.1;obtain ⟨xs,x1,x2,x3,_⟩:=hS.2 r w2;rcases r.bY hb with ⟨hQ,_⟩|⟨sE,svs,L,hφ,hH,hz,hu,hc,q,ho⟩
   ·rw[hQ] at q1;simp at q1;omega
   have hv:v= .sl (g K).n (lo*p.2.size) n (Ai (g K).c lo):=by
    cases v2 with
    |sA=>omega
    |ms=>rfl
    |zb=>omega
   subst hv;have jH:=oU hc;have hmR:m<=sc.R.length:=by omega
   have hmn:m<=n:=by omega
   have hxl:xs.length=sc.R.length*p.2.size:=x2.length x3;have hms:m*p.2.size<=sc.R.length*p.2.size:=jn _ hmR;have hxt:(xs.take (m*p.2.size)).length=m*p.2.size:=by rw[dE];omega
   have MX:lo*p.2.size+m*p.2.size<=Q.length*p.2.size:=by rw[<-fS];exact jn _ (by omega)
   have hQl:Q'.length=Q.length:=by rw[q4];simp;omega
   obtain ⟨A1,B1,eL,p1,p2⟩:=q.cut lo hu;obtain ⟨A2,B2,eL2,_,p4⟩:=p2.cut m λr hr=>hu r (oG hr)
   obtain ⟨A3,B3,eL3,p5,_⟩:=x2.cut m x3;obtain ⟨rfl,rfl⟩:A3= []/\B3= []:=by simpa using eL3.symm
   have q':=p1.append (p5.append p4);refine ⟨.int .i64 (.lit (.ofNat m)),.cells e svs,.cells e (eJ svs (lo*p.2.size) (xs.take (m*p.2.size))),L,A1++([]++B2),hφ,λnew=> ?_,.lit _,.bY sE (λhz0 e0=> ?_) (λr hr=> ?_) ?_ ?_ (λp hp=>by cases hp),?_⟩
   ·show pI E T H new cl=_;unfold pI;rw[qE];show ay (gj T cl.args.toList) (λaa=>nK E H new .copy aa cl.argTypes.toList)=_
    rw[yI,hc3];have e1:gj T [a,y]=V [.sl (g K).n (lo*p.2.size) n (Ai (g K).c lo),x]:=by
     show cj (dt T a) (cj (dt T y) (V []) λv l=>V (v::l)) (λv l=>V (v::l))=_
     rw[v1,w1];rfl
    rw[e1];show Bm E H t1 (.sl (g K).n (lo*p.2.size) n (Ai (g K).c lo)) x=_;unfold Bm;rw[fp hi,fp he];unfold arQ;rw[fp hie,k1];show cj (V n) (oZ H p.2.size x) (λnd q=>E1 (.sl (g K).n (lo*p.2.size) n (Ai (g K).c lo)) H p.2.size (aS (kN q.1 nd) q.1 nd) q.2)=_
    rw[E5 rfl x1];have em:aS (kN sc.R.length n) sc.R.length n=m:=by
     rw[cI];split
     ·rename_i hle;have:=(bN _ _).1 hle;omega
     ·rename_i hle;have:¬sc.R.length<=n:=λh=>hle ((bN _ _).2 h)
      omega
    show Iu H p.2.size (aS (kN sc.R.length n) sc.R.length n) xs (g K).n (lo*p.2.size)=_;rw[em];unfold Iu;rw[hH];show aS (kN (lo*p.2.size+m*p.2.size) svs.length) _ G=_;rw[(bN _ _).2 (show lo*p.2.size+m*p.2.size<=svs.length by omega)]
    rfl
   ·have:=bH aa8 e0;rw[hQl] at this;exact hz hz0 (sP.1 this)
   ·rw[q4] at hr;rcases eV.1 hr with hr|hr
    ·exact hu r (og hr)
    ·rcases eV.1 hr with hr|hr
     ·exact x3 r (og hr)
     ·exact hu r (oG hr)
   ·rw[hQl,Cr (by omega)];exact hc
   ·have es:eJ (svs.take (Q.length*p.2.size)) (lo*p.2.size) (xs.take (m*p.2.size))=(svs.take (Q.length*p.2.size)).take (lo*p.2.size)++(xs.take (m*p.2.size)++((svs.take (Q.length*p.2.size)).drop (lo*p.2.size)).drop (m*p.2.size)):=by
     unfold eJ;rw[lr,sS,hxt];rfl
    rw[hQl,QL (by omega) jH,es,q4]
    simp only[sS] at q' ⊢;exact q'
   ·rw[eL,eL2];exact List.Sublist.append (.refl _) (OC ..)
  ·cases h
 ·cases h
end
section
variable {F F':Hf} {g g':Gb} {Y:Nat->Ow} {c:Nat->cB} {s s':LS} {T:Tf} {H:Hf} {E:Env} {pn:Nat->Bool}
variable {hi:A C'} {c2:cB} {e':ll} {pos:Nat}
def cvS (m e s:Nat) (x:AV):AV:=
 match x with
 | .lit .cr=>.sl m e s 0 []
 | .sl m' e' s' n Q=>.sl (aS (iX m 2||(iX m 0 && !iX m' 2)) m m') e' s' n Q
 |x=>x
def aLF {m e:Nat} {x:AV} (q:VA F g v x):VA F g v (cvS m e sz x):=by
 unfold cvS;split
 ·cases q;exact .nil _ _ _
 ·rw[cI];split
  ·rename_i h;have hm:m=2\/m=0:=by
    rw[sU,bJ] at h;exact h.imp (beq_iff _ _).1 λh=>(beq_iff _ _).1 h.1
   cases q with
   |nil=>exact .nil _ _ _
   |sle=>
    rcases hm with rfl|rfl
    ·exact .sle _ _
    ·cases h
   |sl hn hF hc _ hu hl q=>exact .sl hn hF hc ⟨λe=>(by omega),λe=>(by omega)⟩ hu hl q
  ·exact q
 ·exact q
def cvG (k:bc->bc) (x:AV):AV:=
 match x with
 | .agg cs=>.agg (k cs)
 | .lit (.agg vs)=>.agg (k (zc vs))
 | .dq cs=>.dq (k cs)
 |x=>x
def ayS {k:bc->bc} (hk:∀{vs xs},dK F g vs xs->dK F g vs (k xs)) {x:AV} (q:VA F g v x):VA F g v (cvG k x):=by
 unfold cvG;split
 ·cases q with|agg h=>exact .agg (hk h)
 ·cases q;exact .agg (hk uZ)
 ·cases q with|dq h=>exact .dq (hk h)
 ·exact q
mutual
def cv:AV->AV->AV
 | .sl m e s _ _,x=>cvS m e s x
 | .agg ws,x=>cvG (λxs=>Nk ws xs) x
 | .dq ws,x=>cvG (λxs=>Nk ws xs) x
 | .undef,_=>.undef
 |_,x=>x
def Nk:bc->bc->bc
 |w::ws,x::xs=>cv w x::Nk ws xs
 |_,xs=>xs
end
mutual
def Gd:∀{w x:AV} {v:SV},VA F g v x->VA F g v (cv w x)
 | .sl m e s _ _,_,_,q=>aLF q
 | .agg ws,x,v,q=>ayS (λq=>Is q) q
 | .dq ws,x,v,q=>ayS (λq=>Is q) q
 | .undef,_,v,_=>.undef v
 | .lit _,_,_,q| .kH _,_,_,q| .fn _ _ _,_,_,q| .el _ _ _ _,_,_,q| .ms _ _ _ _,_,_,q| .mp _,_,_,q| .it _,_,_,q=>q
def Is:∀{ws xs:bc} {vs:bf},dK F g vs xs->dK F g vs (Nk ws xs)
 | [],_,_,q=>q
 |_::_,_,_,.nil=>.nil
 |_::_,_,_,.cons h t=>.cons (Gd h) (Is t)
end
def cvO:fq->fq->fq
 |w::ws,p::o=>(p.1,cv w.2 p.2)::cvO ws o
 |_,o=>o
def ayR {svs:bf}:∀{w o:fq},HoA F g svs o->HoA F g svs (cvO w o)
 | [],_,h=>h
 |_::_,[],h=>h
 |w::ws,p::o,h=>λq hq=>by
  rcases da.1 (show q∈(p.1,cv w.2 p.2)::cvO ws o from hq) with rfl|hq
  ·obtain ⟨v,v1,v2⟩:=h p (by simp)
   exact ⟨v,v1,Gd v2⟩
  ·exact ayR (λp hp=>h p (dW _ hp)) q hq
def cvB (w b:Bx):Bx:=
 match w,b with
 | .flat _ ws,.flat e cs=>.flat e (Nk ws cs)
 | .bY z' _ _ _ _ o',.bY z e s l Q o=>.bY (z&&z') e s l Q (cvO o' o)
 |_,b=>b
def aLG {w b:Bx} {L:Ow} (q:eQ F g k b L):eQ F g k (cvB w b) L:=by
 unfold cvB;split
 ·cases q with|flat q=>exact .flat (Is q)
 ·rename_i o' z e s l Q o;cases q with
  |nil hb=>cases o'<;>exact .nil hb
  |bY hb hz hu hc q ho=>exact .bY hb (λh=>hz (j4.1 h).1) hu hc q (ayR ho)
 ·exact q
def ZA (ts:fq):A C'->A (A Int)
 |none=>V G
 |some x=>(match dN ts x with| .lit (.int _ (.lit n))=>V (V n)|_=>G)
def Ul (r:Rel F g Y c s T H) {o:A C'} {b:A Int} {d:Nat} (hb:ZA s.ts o=V b) (hn:b.getD d=(n:Int)):∃c,km T o=V c/\c.getD d=n/\(d=0\/d=n->n=0->oV c=M):=by
 cases o with
 |none=>
  cases hb;exact ⟨G,rfl,WT hn,λ_ _=>rfl⟩
 |some x=>
  have hb:(match dN s.ts x with| .lit (.int _ (.lit n))=>V (V n)|_=>G)=V b:=hb
  split at hb
  ·rename_i k m hv;cases hb;obtain rfl:m=(n:Int):=hn;obtain ⟨v,v1,v2⟩:=r.val hv (by simp)
   cases v2;exact ⟨V n,by show ay (dt T x) (λv=>ay (oE v) λn=>V (V n))=_;rw[v1];rfl,rfl,λ_ h=>(beq_iff _ _).2 h⟩
  ·cases hb
def Av {ie:TI} (qD:E.ty.get t=V i) (hd:oM i.desc=V e) (he:E.ty.get e=V ie) (hv:dt T a=V v) (h1:km T lo=V c1) (h2:km T hi=V c2):
  ux E (.slice t a lo hi G) T H new=same (Ef v E e c1 c2 G):=by
 show one T a (λv=>ug (km T lo) (km T hi) (V G) λl u m=>same (y6 E t v l u m))=_
 unfold one;rw[hv,h1,h2];show same (y6 E t v c1 c2 G)=_;unfold y6;rw[qD];show same (afL i.desc E v c1 c2 G)=_;rw[sg hd];show same (ay (E.ty.get e) λ_=>Ef v E e c1 c2 G)=_
 rw[he];rfl
def afJ {ie:TI} {id u:Nat} {cp:Cp} (hie:E.ty.get e=V ie) (d1:c1.getD 0=l) (d2:c2.getD n=u) (hlu:l<=u) (hu:u<=n) (hc:ajD e n cp):Ef (.sl id off n cp) E e c1 c2 G=V (AS id off l u ie.size cp):=by
 show wG E e id off n cp c1 c2 G=_;unfold wG;rw[fp hie,d1,d2];have e1:(HJ cp e&&(kN l u&&(kN u (reach cp n)&&Pc G u (reach cp n))))=M:=by
  rw[(bN _ _).2 hlu];cases cp with
  |k m=>rw[show kN u (reach (.k m) n)=M from (bN _ _).2 (kP hu hc)];rfl
  |u e'=>rw[show kN u (reach (.u e') n)=M from (bN _ _).2 hu,show HJ (.u e') e=M from (beq_iff _ _).2 hc];rfl
 rw[e1];rfl
def ajC (lo hi:Int) (n l u:Nat):Prop:=lo=(l:Int)/\hi=(u:Int)/\l<=u/\u<=n
def CutR (Q:bz) (lo hi:Int) (R:bz) (n:Nat):Prop:=∃l u,ajC lo hi Q.length l u/\(Q.drop l).take (u-l)=R/\R.length=n
def Zy (m:Nat) (lo:A C'):Nat:= @Option.rec _ (λ_=>Nat) (aS (iX m 2) 2 0) (λ_=>2) lo
def ayU {m:Nat} {P Q:Prop}:(Zy m lo=1->P)/\(Zy m lo=3->Q):=by
 unfold Zy;cases lo with
 |none=>constructor<;>(intro h;have h:aS (iX m 2) 2 0=_:=h;rw[cI] at h;split at h<;>cases h)
 |some=>constructor<;>(intro h;cases h)
def aAF (c:Cp) (a b:Nat):Ai (Ai c a) b=Ai c (a+b):=by
 cases c with
 |k m=>exact bH Cp.k (Nat.sub_sub m a b)
 |u e=>rfl
def aCU {id u s':Nat} {m:Nat} {cp:Cp} {Q:bz} (hn:Q.length=n) (hF:jy (F id) off (n*s')=V (e',svs)) (hu:∀r∈Q,r.length=s') (hl:off+n*s'<=svs.length) (hq:dK F lU ((svs.drop off).take (n*s')) Q.flatten) (h1:l<=u) (h2:u<=n) (hc:ajD e n cp) (h0:lo=G->l=0):VA F g (AS id off l u s' cp) (.sl (Zy m lo) e s' (u-l) ((Q.drop l).take (u-l))):=by
 subst hn;have hlen:((Q.drop l).take (u-l)).length=u-l:=by rw[dE,jq];omega
 have oA:∀r∈(Q.drop l).take (u-l),r.length=s':=λr hr=>hu r (oG (og hr))
 have hle:l*s'+(u-l)*s'<=Q.length*s':=by rw[<-fS];exact jn _ (by omega)
 have hq2:dK F lU ((svs.drop (off+l*s')).take ((u-l)*s')) ((Q.drop l).take (u-l)).flatten:=by
  have:=(hq.drop (l*s')).take ((u-l)*s');rwa[wx,lX,sS,fu (by omega),<-ahB hu] at this
 unfold AS;rw[cI,cI];split
 ·rename_i e0;obtain rfl:=(beq_iff _ _).1 e0;rw[ng] at hle hq2;rw[Nat.sub_zero] at*;refine .sl hlen (wP hF (cS _) (by omega)) ?_ ayU oA (by omega) (by simpa using hq2)
  cases cp with
  |k m=>exact kP h2 hc
  |u e'=>exact hc
 ·rename_i e0;split
  ·refine .sl hlen (wP hF (show off<=off+l*s' from Ox _ _) (show off+l*s'+(u-l)*s'<=off+Q.length*s' by omega)) ?_ ayU oA (show off+l*s'+(u-l)*s'<=svs.length by omega) hq2
   cases cp with
   |k m=>exact (show u-l<=m-l from Nat.sub_le_sub_right (kP h2 hc) l)
   |u e'=>exact hc
  ·rename_i dz;obtain rfl:u=l:=by
    have:¬l<u:=λhc=>dz ((bN _ _).2 hc)
    omega
   rw[rF,yV];cases lo with
   |none=>exact absurd ((beq_iff _ _).2 (h0 rfl)) e0
   |some=>exact .sle e s'
def aCV (E:Env) (s:LS) (op:Op) (l u:Nat) (R:bz) (n':Nat) (ob:Prop->cJ):A nc:=
 match op with
 | .slice t a lo hi G=>ay (Di E t) λp=>cj (ZA s.ts lo) (ZA s.ts hi) λb1 b2=>(match dN s.ts a with
  | .sl m e sz n Q=>aS (iX e p.1&&iX sz p.2.size) (V ⟨[ob (CutR Q (b1.getD 0) (b2.getD (n:Nat)) R n')],s,.sl (Zy m lo) e sz n' R,[]⟩) G
  | .ms K sz lo0 n=>(match lk K s.bs with
   |some (.bY _ e BF _ Q _)=>aS (iX e p.1&&(iX sz p.2.size&&iX BF p.2.size)) (V ⟨[ob (ajC (b1.getD 0) (b2.getD (n:Nat)) n l u/\lo0+n<=Q.length)],s,.ms K sz (p8 lo0 l) (Nat.sub u l),[]⟩) G
   |_=>G)
  |_=>G)
 |_=>G
def aJy {op:Op} {u:Nat} {R:bz} {ob:Prop->cJ} (gD:∀P,(ob P).need=P) {r:nc} (h:aCV E s op l u R n' ob=V r):sd E pn op s r:=by
 unfold aCV at h;split at h
 ·rename_i t a lo hi;obtain ⟨p,hp,h⟩:=aq h;obtain ⟨b1,b2,h1,h2,h⟩:=bT h;obtain ⟨i,qD,he,hie⟩:=rZ hp;split at h
  ·rename_i m e sz n Q ha;obtain ⟨h3,h⟩:=aZ h;cases h;rw[bJ] at h3;obtain rfl:=(beq_iff _ _).1 h3.1;obtain rfl:=(beq_iff _ _).1 h3.2;intro hh;have hc:=hh.1;rw[gD] at hc;obtain ⟨l,u,⟨c1,c2,c3,c4⟩,rfl,rfl⟩:=hc;refine .val λ{F g Y c T H} r=> ?_
   obtain ⟨v,v1,v2⟩:=r.val ha (by simp)
   have hn:Q.length=n:=by cases v2<;>first|rfl|assumption
   rw[hn] at c4;have hlen:((Q.drop l).take (u-l)).length=u-l:=by rw[dE,jq];omega
   obtain ⟨d1,f1,f2,f3⟩:=Ul (d:=0) r h1 c1;obtain ⟨d2,k1,k2,k3⟩:=Ul (d:=n) r h2 c2;have h0:lo=G->l=0:=λe=>by subst e;cases h1;exact (WT c1).symm
   rw[hlen];generalize hm:Zy m lo=m' at*;cases v2 with
   |nil=>
    have hu0:u=0:=Dy.1 c4;have zj:l=0:=by omega
    subst hu0;subst zj;refine ⟨.cr,λnew=> ?_,.nil _ _ _⟩
    rw[Av qD he hie v1 f1 k1];show same (aS (oV d1&&(oV d2&&M)) (V SV.cr) G)=_;rw[f3 (.inl rfl) rfl,k3 (.inl rfl) rfl];rfl
   |sle=>
    have hu0:u=0:=Dy.1 c4;have zj:l=0:=by omega
    subst hu0;subst zj;refine ⟨.sle,λnew=> ?_,?_⟩
    ·rw[Av qD he hie v1 f1 k1];show same (aS (oV d1&&(oV d2&&M)) (V SV.sle) G)=_;rw[f3 (.inl rfl) rfl,k3 (.inl rfl) rfl];rfl
    ·rw[<-hm];cases lo<;>exact .sle _ _
   |sl _ hF hct _ hu hl q=>
    refine ⟨_,λnew=> ?_,by rw[<-hm];exact aCU hn hF hu hl q c3 c4 hct h0⟩
    rw[Av qD he hie v1 f1 k1,afJ hie f2 k2 c3 c4 hct];rfl
  ·rename_i K sz lo0 n ha;split at h
   ·rename_i z e BF l' Q o hb;obtain ⟨h3,h⟩:=aZ h;cases h;simp only[bJ] at h3;obtain rfl:=(beq_iff _ _).1 h3.1;obtain rfl:=(beq_iff _ _).1 h3.2.1;obtain rfl:=(beq_iff _ _).1 h3.2.2;intro hh;have hc:=hh.1;rw[gD] at hc;obtain ⟨⟨c1,c2,c3,c4⟩,hn⟩:=hc;refine .val λ{F g Y c T H} r=> ?_
    obtain ⟨v,v1,v2⟩:=r.val ha (by simp)
    obtain ⟨d1,f1,f2,f3⟩:=Ul (d:=0) r h1 c1;obtain ⟨d2,k1,k2,k3⟩:=Ul (d:=n) r h2 c2;show ∃v,(∀new,_)/\VA F g v (.ms K p.2.size (lo0+l) (u-l));cases v2 with
    |sA _ qZ=>
     have hu0:u=0:=Dy.1 c4;have zj:l=0:=by omega
     subst hu0;subst zj;refine ⟨.cr,λnew=> ?_,.sA _ qZ⟩
     rw[Av qD he hie v1 f1 k1];show same (aS (oV d1&&(oV d2&&M)) (V SV.cr) G)=_;rw[f3 (.inl rfl) rfl,k3 (.inl rfl) rfl];rfl
    |zb _ _ h0=>
     have hu0:u=0:=Dy.1 c4;have zj:l=0:=by omega
     subst hu0;subst zj;refine ⟨.sle,λnew=> ?_,.zb _ _ h0⟩
     rw[Av qD he hie v1 f1 k1];show same (aS (oV d1&&(oV d2&&M)) (V SV.sle) G)=_;rw[f3 (.inl rfl) rfl,k3 (.inl rfl) rfl];rfl
    |ms _ _ _ qZ=>
     rcases r.bY hb with ⟨_,_,h,_⟩|⟨_,svs,L,_,hH,_,hu,jH,_,_⟩
     ·rw[h] at qZ;cases qZ
     have hct:ajD p.1 n (Ai (g K).c lo0):=by
      cases hκ:(g K).c with
      |k m=>rw[hκ] at jH;have:=jH.1;exact (show n<=m-lo0 by omega)
      |u e'=>rw[hκ] at jH;exact jH.1
     refine ⟨_,λnew=>by rw[Av qD he hie v1 f1 k1,afJ hie f2 k2 c3 c4 hct];rfl,?_⟩
     unfold AS;rw[cI,cI];split
     ·rename_i e0;obtain rfl:=(beq_iff _ _).1 e0;exact .ms _ lo0 u qZ
     ·rename_i e0;have e0:l≠0:=λh=>e0 ((beq_iff _ _).2 h)
      split
      ·rw[aAF,show p8 (lo0*p.2.size) (A' l p.2.size)=(lo0+l)*p.2.size from (fS _ _ _).symm];exact .ms _ (lo0+l) (u-l) qZ
      ·rename_i dz;obtain rfl:u=l:=by
        have:¬l<u:=λhc=>dz ((bN _ _).2 hc)
        omega
       rw[rF];exact .zb _ _ (by omega)
   ·cases h
  ·cases h
 ·cases h
def Pp (K:Nat):fq->Bool
 | []=>M
 |p::l=> !mW K (kU p.2)&&Pp K l
def TY (K:Nat):cZ->Bool
 | []=>M
 |p::l=>(iX p.1 K|| !mW K p.2.keys)&&TY K l
def JW {l:bP} (h:(!mW K l)=M):K∉l:=λhm=>Pb (by simpa using h) K hm rfl
def RM {K:Nat}:∀{ts:fq},Pp K ts=M->∀t x,lk t ts=V x->K∉kU x
 |(k,y)::l,hf,t,x,hx=>by
  have hf:=j4.1 (show (!mW K (kU y)&&Pp K l)=M from hf);rw[dD] at hx;split at hx
  ·cases hx;exact JW hf.1
  ·exact RM hf.2 t x hx
def ahy {K:Nat}:∀{bs:cZ},TY K bs=M->∀k b,k≠K->lk k bs=V b->K∉b.keys
 |(k',b')::l,hf,k,b,cR,hx=>by
  have hf:=j4.1 (show ((iX k' K|| !mW K b'.keys)&&TY K l)=M from hf);rw[dD] at hx;split at hx
  ·rename_i e;cases hx;rcases (sU _ _).mp hf.1 with h|h
   ·exact absurd (e.trans ((beq_iff _ _).1 h)) cR
   ·exact JW h
  ·exact ahy hf.2 k b cR hx
def F7 (s:LS) (K:Nat):Bool:=Pp K s.ts&&TY K s.bs
def xX (hf:F7 s K=M):s.free K:=
 have hf:=j4.1 (show (Pp K s.ts&&TY K s.bs)=M from hf)
 ⟨RM hf.1,ahy hf.2⟩
def MkP (n1 n2:Int) (z:bc) (Q:bz) (l:Nat):Prop:=∃m:Nat,n1=(l:Int)/\n2=(m:Int)/\l<=m/\m<=1000000/\P' l z=Q
def tabN {id s:Nat} {cp:Cp} {l:ep} {Q:bz} (h:g K=⟨id,cp,M⟩) (hu:∀r∈Q,r.length=s) (hc:zQ e s Q.length svs.length cp) (q:TR F l (svs.take (Q.length*s)) Q []):eQ F g K (.bY B e s l Q []) [(id,.cells e svs)]:=by
 have:=eQ.bY (F:=F) (g:=g) (K:=K) (z:=B) (e:=e) (by rw[h]) (λh=>by cases h) hu (by rw[h];exact hc) q (o:= []) (λp hp=>by cases hp)
 rwa[h] at this
def mkC (sh:Sh) (w:AV) (v:SV):AV:=
 match sh with
 | .d=>cv w (.lit v)
 | .o b _=>(match v,w with
  | .cr,.sl _ e s _ _=>y5 b e s 0 []
  |_,_=>.undef)
def mkT:ep->bc->bf->bc
 |_,_,[]=> []
 |sh,ws,v::vs=>mkC (sh.headD .d) (ws.headD .cr) v::mkT sh.tail ws.tail vs
def aLr {F:Hf} {sh:Sh} {w:AV}:TC F sh v (mkC sh w v) []:=by
 cases sh with
 |d=>exact .d (Gd (.lit v))
 |o b l=>
  show TC F (.o b l) v (match v,w with| .cr,.sl _ e s _ _=>y5 b e s 0 []|_,_=>.undef) []
  split
  ·exact .nil
  ·exact .any _
def agB {F:Hf}:∀{vs:bf} {sh:ep} {ws:bc},lB F sh vs (mkT sh ws vs) []
 | [],_,_=>.nil
 |v::vs,sh,ws=>.cons (a:= []) aLr agB
def mkI (E:Env) (pn:Nat->Bool) (s:LS) (d:cB) (op:Op) (z:bc) (Q:bz) (l:Nat) (sh:ep) (ob:Prop->cJ):A nc:=
 match op with
 | .makeSlice t a c=>cj (Di E t) d λp K=>(match dN s.ts a,dN s.ts c with
  | .lit (.int _ (.lit n1)),.lit (.int _ (.lit n2))=>aS (mL p.2&&(!pn K&&F7 s K)) (V ⟨[ob (MkP n1 n2 (mkT sh z p.2.zero) Q l)],s.set K (.bY B p.1 p.2.size sh Q []),.ms K p.2.size 0 l,[K]⟩) G
  |_,_=>G)
 |_=>G
def afZ {z:bf}:∀{l m:Nat},l<=m->(rep z m).take (l*z.length)=rep z l
 |0,_,_=>by simp[rep]
 |l+1,0,h=>by omega
 |l+1,m+1,h=>by
  show (z++rep z m).take _=z++rep z l;rw[fS,sQ,Dz,HC,afZ (by omega)]
def aLq {op:Op} {z:bc} {Q:bz} {sh:ep} {ob:Prop->cJ} (gD:∀P,(ob P).need=P) {r:nc} (h:mkI E pn s d op z Q l sh ob=V r):sd E pn op s r:=by
 unfold mkI at h;split at h
 ·rename_i t a c;obtain ⟨p,K,hp,hd,h⟩:=bT h;split at h
  ·rename_i n1 _ n2 ha hc;obtain ⟨h1,h⟩:=aZ h;cases h;simp only[bJ] at h1;obtain ⟨k1,k2,k3⟩:=h1;intro hh;have hm:=hh.1;rw[gD] at hm;obtain ⟨m,rfl,rfl,hlm,hm6,rfl⟩:=hm;obtain ⟨i,hi,he,hie⟩:=rZ hp;have oQ:=QW k1;have hzl:(mkT sh z p.2.zero).length=p.2.size:=by rw[<-(agB (F:=λ_=>G)).length,oQ]
   refine .lay (by simpa using k2) (xX k3) λ{F g Y c T H new} r=> ?_
   obtain ⟨v,v1,v2⟩:=r.val ha (by simp)
   obtain ⟨w,w1,w2⟩:=r.val hc (by simp)
   cases v2;cases w2;refine ⟨.sl new 0 l (.k m),.cells p.1 (rep p.2.zero m),.k m,?_,λg' e1 e2=>⟨sA e1,tabN e1 (λr hr=>by rw[List.eq_of_mem_replicate hr];exact hzl) ?_ ?_⟩⟩
   ·show two T a _ (λu v=>cj (oE u) (oE v) (HY E new t))=_
    rw[two,v1,w1];show HY E new t l m=_;unfold HY;rw[fp hi,fp he,fp hie,(bN _ _).2 hlm,(bN _ _).2 hm6,k1];rfl
   ·have:∀m,(rep p.2.zero m).length=m*p.2.size:=λm=>by
     rw[(afY (F:=λ_=>G) (g:=lU) uZ m).length,YU,zc,my,oQ]
    rw[uN];exact ⟨hlm,this m⟩
   ·rw[uN,<-oQ,afZ hlm];have:∀l,TR F sh (rep p.2.zero l) (P' l (mkT sh z p.2.zero)) []:=λl=>by
     induction l with
     |zero=>exact .nil
     |succ l ih=>rw[WR];exact .cons (a:= []) (b:= []) agB ih
    exact this l
  ·cases h
 ·cases h
def divL (op:S') (k:KH) (m n:Int):A AV:=
 match op with
 | .rem=>V (.int k (m.tmod n))
 | .quo=>V (.int k (k.wrap (m.tdiv n)))
 |_=>G
def aAA (E:Env) (s:LS) (op:Op) (n:Nat) (ob:Prop->cJ):A nc:=
 match op with
 | .binOp o _ a b _=>(match dN s.ts a,dN s.ts b with
  | .lit (.int k (.lit x)),.lit (.int k' (.lit y))=>aS (iD k k') (ay (divL o k x y) λz=>V ⟨[ob (y≠0)],s,z,[]⟩) G
  | .lit (.str x),.lit (.str y)=>(match o with
   | .add=>V ⟨[ob (x.size+y.size<=1000000)],s,.str (x++y),[]⟩
   |_=>G)
  |_,_=>G)
 | .index t a ix=>ay (E.ty.get t) λi=>(match dN s.ts a,dN s.ts ix with
  | .lit (.str b),.lit (.int _ (.lit m))=>aS (Ia i.desc) (V ⟨[ob ((B4 b.data.toList m).map UInt8.toNat=V n)],s,.int .u8 (n:Int),[]⟩) G
  |_,_=>G)
 | .next it M=>(match dN s.ts it with
  | .it K=>(match lk K s.bs with
   |some (.iter b pos)=>aS (iX n 0) (V ⟨[ob (¬pos<b.size)],s,.dq [.bool B],[]⟩) (V ⟨[ob (pos<b.size)],s.set K (.iter b (p8 pos (V' b pos).2)),.dq [.bool M,.int .i64 (pos:Int),.int .i32 (V' b pos).1],[K]⟩)
   |_=>G)
  |_=>G)
 |_=>G
def aAU {k:KH} {m n:Int} (hn:n≠0):o7 P (binOp .rem t (.int k m) (.int k n))=V (.int k (m.tmod n)):=by
 have:binOp .rem t (.int k m) (.int k n)=Sem.pure (.int k (m.tmod n)):=by
  simp[binOp,Op.intDiv,hn,pure]
 rw[this];rfl
def aAV {k:KH} {m n:Int} (hn:n≠0):o7 P (binOp .quo t (.int k m) (.int k n))=V (.int k (k.wrap (m.tdiv n))):=by
 have:binOp .quo t (.int k m) (.int k n)=Sem.pure (.int k (k.wrap (m.tdiv n))):=by
  simp[binOp,Op.intDiv,hn,pure]
 rw[this];rfl
def aDa {a b:Z} (hn:a.size+b.size<=1000000):o7 P (binOp .add t (.string a) (.string b))=V (.string (a++b)):=by
 have h1:¬(((a.size+b.size:Nat):Int)>IntKind.i64.max):=by
  have:IntKind.i64.max=9223372036854775807:=by decide
  omega
 have:binOp .add t (.string a) (.string b)=Sem.pure (.string (a++b)):=by
  show Op.stringOp .add a b=_;unfold Op.stringOp;simp only[];rw[aC h1];rfl
 rw[this];rfl
def agQ (r:Rel F g Y c s T H) {b:Z} (ha:dN s.ts it= .it K) (hb:lk K s.bs=V (.iter b pos)):Y K= [((g K).n,.qo b pos)]/\∀new,ux E (.next it M) T H new=V (H4 (g K).n (b,pos)):=by
 obtain ⟨v,v1,v2⟩:=r.val ha (by simp)
 cases v2;obtain ⟨q,_,q3⟩:=r.bx K _ hb;generalize Y K=L at q q3;cases q with
 |iter=>
 refine ⟨rfl,λnew=> ?_⟩
 show one T it (Es H M)=_;rw[one,v1];show ay (Pm (H (g K).n)) (λp=>V (H4 (g K).n p))=_
 rw[(q3 ((g K).n,.qo b pos) (by simp)).1];rfl
def aIg {op:Op} {ob:Prop->cJ} (gD:∀P,(ob P).need=P) {r:nc} (h:aAA E s op n ob=V r):sd E pn op s r:=by
 unfold aAA at h;split at h
 ·rename_i o t a b t2;split at h
  ·rename_i k x k' y ha hb;obtain ⟨hk,h⟩:=aZ h;obtain ⟨z,hz,h⟩:=aq h;cases h;obtain rfl:=Rz hk;intro hh;have hn:=hh.1;rw[gD] at hn;exact .bi (f:=λv u=>same (R0 E _ _ _ _ v u)) (λ_ _ _=>rfl) ha (by simp) hb (by simp) λ{F g v w} hv hw=>by
    cases hv;cases hw;cases o<;>first|(cases hz;done)|skip
    ·cases hz;refine ⟨.int k (.lit (k.wrap (x.tdiv y))),?_,.lit _⟩;show same (JR (o7 E.P (binOp .quo t (.int k x) (.int k y))))=_;rw[aAV hn];rfl
    ·cases hz;refine ⟨.int k (.lit (x.tmod y)),?_,.lit _⟩;show same (JR (o7 E.P (binOp .rem t (.int k x) (.int k y))))=_;rw[aAU hn];rfl
  ·rename_i x y ha hb;split at h
   ·cases h;intro hh;have hn:=hh.1;rw[gD] at hn;exact .bi (f:=λv u=>same (R0 E _ _ _ _ v u)) (λ_ _ _=>rfl) ha (by simp) hb (by simp) λ{F g v w} hv hw=>by
     cases hv;cases hw;refine ⟨.str (x++y),?_,.lit _⟩;show same (JR (o7 E.P (binOp .add t (.string x) (.string y))))=_;rw[aDa hn];rfl
   ·cases h
  ·cases h
 ·obtain ⟨i,hi,h⟩:=aq h;split at h
  ·rename_i b _ m ha BZ;obtain ⟨hd,h⟩:=aZ h;cases h;intro hh;have hn:=hh.1;rw[gD] at hn;obtain ⟨cc,h1,h2⟩:=wD.1 hn;obtain ⟨j,rfl,h3⟩:=QU h1;exact .bi (f:=λv u=>ay (oE u) λk=>AF E _ k v) (λ_ _ _=>rfl) ha (by simp) BZ (by simp) λ{F g v w} hv hw=>by
    cases hv;cases hw;refine ⟨_,?_,.lit _⟩;show AF E _ j (.str b)=_;unfold AF;rw[fp hi];generalize i.desc=d at hd;cases d<;>first|(cases hd;done)|skip
    show ay (b.data.toList[j]?) (λb=>V (SV.int .u8 (.lit (.ofNat b.toNat)),([]:hJ)))=_
    rw[fp h3,<-h2];rfl
  ·cases h
 ·split at h
  ·rename_i K ha;split at h
   ·rename_i b pos hb;rw[cI] at h;split at h
    ·cases h;intro hh;have dz:=hh.1;rw[gD] at dz;refine .val λ{F g Y c T H} r=>⟨.dq [.bool B],λnew=> ?_,.dq (.cons (.lit _) .nil)⟩
     rw[(agQ r ha hb).2];have hx:kN (J' pos) b.size=B:=by
      cases hx:kN (J' pos) b.size with
      |false=>rfl
      |true=>exact absurd ((bN _ _).1 hx) dz
     show V (aS (kN (J' pos) b.size) _ _)=_;rw[hx]
    ·cases h;intro hh;have dz:=hh.1;rw[gD] at dz;refine .wr hb λ{F g Y c T H} r=> ?_
     obtain ⟨hφ,go⟩:=agQ (E:=E) r ha hb;refine ⟨.dq [.bool M,xb pos,.int .i32 (.lit (V' b pos).1)],_,.qo b (pos+(V' b pos).2),[],[],hφ,λnew=> ?_,.dq (.cons (.lit _) (.cons (.lit _) (.cons (.lit _) .nil))),.iter,.refl _⟩
     rw[go];show V (aS (kN (J' pos) b.size) _ _)=_;rw[(bN _ _).2 dz];rfl
   ·cases h
  ·cases h
 ·cases h
def aae {mx:A C'} {c2 c3:Nat} {ie:TI} (qD:E.ty.get t=V i) (hd:oM i.desc=V e) (he:E.ty.get e=V ie) (hv:dt T a=V v) (h2:km T hi=V (V c2)) (h3:km T mx=V (V c3)):
  ux E (.slice t a G hi mx) T H new=same (Ef v E e G (V c2) (V c3)):=by
 show one T a (λv=>ug (km T G) (km T hi) (km T mx) λl u m=>same (y6 E t v l u m))=_
 unfold one;rw[hv,h2,h3];show same (y6 E t v G (V c2) (V c3))=_;unfold y6;rw[qD];show same (afL i.desc E v G (V c2) (V c3))=_;rw[sg hd];show same (ay (E.ty.get e) λ_=>Ef v E e G (V c2) (V c3))=_
 rw[he];rfl
def CutF (Q:bz) (hi mx:Int) (R:bz) (n:Nat):Prop:=∃u:Nat,hi=(u:Int)/\mx=(u:Int)/\u<=Q.length/\Q.take u=R/\R.length=n
def arO (E:Env) (s:LS) (op:Op) (R:bz) (n':Nat) (ob:Prop->cJ):A nc:=
 match op with
 | .slice t a G (V hi) (V mx)=>ay (Di E t) λp=>cj (ZA s.ts (V hi)) (ZA s.ts (V mx)) λb1 b2=>(match dN s.ts a with
  | .sl m e sz n Q=>aS (!iX m 2&&(b1.isSome&&(b2.isSome&&(iX e p.1&&iX sz p.2.size)))) (V ⟨[ob (CutF Q (b1.getD 0) (b2.getD 0) R n')],s,.sl 3 e sz n' R,[]⟩) G
  |_=>G)
 |_=>G
def aza (r:Rel F g Y c s T H) {b:A Int} (hb:ZA s.ts (V x)=V b) (hn:b.getD 0=(n:Int)):km T (V x)=V (V n):=by
 have hb:(match dN s.ts x with| .lit (.int _ (.lit n))=>V (V n)|_=>G)=V b:=hb
 split at hb
 ·rename_i k m hv;cases hb;obtain rfl:m=(n:Int):=hn;obtain ⟨v,v1,v2⟩:=r.val hv (by simp)
  cases v2;show ay (dt T x) (λv=>ay (oE v) λn=>V (V n))=_
  rw[v1];rfl
 ·cases hb
def aCW {op:Op} {R:bz} {ob:Prop->cJ} (gD:∀P,(ob P).need=P) {r:nc} (h:arO E s op R n' ob=V r):sd E pn op s r:=by
 unfold arO at h;split at h
 ·rename_i t a hi mx;obtain ⟨p,hp,h⟩:=aq h;obtain ⟨b1,b2,h1,h2,h⟩:=bT h;obtain ⟨i,qD,he,hie⟩:=rZ hp;split at h
  ·rename_i m e sz n Q ha;obtain ⟨h3,h⟩:=aZ h;cases h;simp only[bJ] at h3;obtain ⟨h3,_,_,h4,h5⟩:=h3;obtain rfl:=(beq_iff _ _).1 h4;obtain rfl:=(beq_iff _ _).1 h5;have h3:m≠2:=λe=>by rw[(beq_iff _ _).2 e] at h3;cases h3
   intro hh;have hc:=hh.1;rw[gD] at hc;obtain ⟨u,c1,c2,c3,rfl,rfl⟩:=hc;refine .val λ{F g Y c T H} r=> ?_
   obtain ⟨v,v1,v2⟩:=r.val ha (by simp)
   have k1:=aza r h1 c1;have k2:=aza r h2 c2;have hlen:(Q.take u).length=u:=by rw[dE];omega
   rw[hlen];cases v2 with
   |nil=>
    obtain rfl:u=0:=Dy.1 c3;refine ⟨.cr,λnew=> ?_,.nil _ _ _⟩
    rw[aae qD he hie v1 k1 k2];rfl
   |sle=>exact absurd rfl h3
   | @sl _ _ id off cp _ _ _ _ e2 svs hn hF hct _ hu hl q=>
    subst hn;have hle:=jn p.2.size c3;refine ⟨.sl id off u (.k u),λnew=> ?_,.sl hlen (wP hF (cS _) (by omega)) (cS u) ⟨λh=>(by cases h),λ_=>rfl⟩ (λr hr=>hu r (og hr)) (by omega) ?_⟩
    ·rw[aae qD he hie v1 k1 k2];show same (wG E p.1 id off Q.length cp G (V u) (V u))=_;unfold wG;rw[fp hie];have e1:(HJ cp p.1&&(kN 0 u&&(kN u (reach cp Q.length)&&Pc (V u) u (reach cp Q.length))))=M:=by
      have e0:Pc (V u) u (reach cp Q.length)=(kN u u&&kN u (reach cp Q.length)):=rfl;rw[e0,(bN _ _).2 (ru u),(bN _ _).2 (cS u)];cases cp with
      |k m=>rw[show kN u (reach (.k m) Q.length)=M from (bN _ _).2 (kP c3 hct)];rfl
      |u e'=>rw[show kN u (reach (.u e') Q.length)=M from (bN _ _).2 c3,show HJ (.u e') p.1=M from (beq_iff _ _).2 hct];rfl
     show same (aS _ (V (AS id off 0 u p.2.size (.k u))) G)=_;rw[show (HJ cp p.1&&(kN ((G:cB).getD 0) ((V u).getD Q.length)&&(kN ((V u).getD Q.length) (reach cp Q.length)&&Pc (V u) ((V u).getD Q.length) (reach cp Q.length))))=M from e1];rfl
    ·have:=q.take (u*p.2.size);rw[lX,fu hle] at this;have e3:=F8 hu u;rw[e3];exact this
  ·cases h
 ·cases h
def aHj (E:Env) (pn:Nat->Bool) (s:LS) (d:cB) (op:Op) (R Q':bz) (n':Nat) (ob:Prop->cJ):A nc:=
 ay d λK=>ay (Xb .append op) λq=>cj (Di E q.2.1) (E.ty.get q.2.2) λp i2=>(match dN s.ts q.1.1 with
  | .sl m e sz n Q=>ay (YM s p.2.size [] (dN s.ts q.1.2) (λR=>Lj B Q n Q' n' R/\R≠ []) R ob) λsc=>
   aS ((mL p.2&&Az i2.desc)&&((iX m 3&&(iX sz p.2.size&&iX e p.1))&&(!pn K&&F7 s K)))
    (V ⟨sc.BN,s.set K (.bY M e sz [] Q' []),.ms K sz 0 n',[K]⟩) G
  |_=>G)
def aDg {op:Op} {R Q':bz} {ob:Prop->cJ} (gD:∀P,(ob P).need=P) {r:nc} (h:aHj E pn s d op R Q' n' ob=V r):sd E pn op s r:=by
 obtain ⟨K,hd,h⟩:=aq h;obtain ⟨⟨⟨a,y⟩,t1,t2⟩,h1,h0⟩:=aq h;clear h;obtain ⟨cl,rfl,qE,yI,hc3⟩:=FD h1;obtain ⟨p,i2,h2,h3,h⟩:=bT h0;clear h0;dsimp only at h;split at h
 ·rename_i m e sz n Q ha;obtain ⟨sc,h5,h⟩:=aq h;obtain ⟨h6,h⟩:=aZ h;cases h;simp only[bJ] at h6;obtain ⟨⟨k1,k2⟩,⟨k3,k4,k5⟩,k6,k7⟩:=h6;intro hh;obtain ⟨⟨hA,hR0⟩,hS⟩:=O1 gD h5 hh;obtain rfl:=(beq_iff _ _).1 k3;obtain rfl:=(beq_iff _ _).1 k4;obtain rfl:=(beq_iff _ _).1 k5;obtain ⟨i,hi,he,hie⟩:=rZ h2;rw[<-hA.len,<-hA.eq];refine .box λ{F g Y c T H new} r hn=> ?_
  obtain ⟨v,v1,v2⟩:=r.val ha (by simp)
  obtain ⟨x,w1,w2⟩:=r.val rfl hS.1;obtain ⟨xs,x1,x2,x3,_⟩:=hS.2 r w2;have hm0:iX sc.R.length 0=B:=by
   cases hx:iX sc.R.length 0 with
   |false=>rfl
   |true=>exact absurd (sP.1 ((beq_iff _ _).1 hx)) hR0
  have dg:xs.length=sc.R.length*p.2.size:=x2.length x3;have go:∀old:bf,Q.length=n->old.length=n*p.2.size->TR F [] old Q []->(∀r∈Q,r.length=p.2.size)->r9 v H new p.1 p.2.size sc.R.length xs=V (.sl new 0 (p8 n sc.R.length) (.u p.1),[(new,V (.cells p.1 (old++xs)))])->
    ∃v' us gk L',ux E (.call cl) T H new=V (v',us)/\VA F (kS g K gk) v' (.ms K p.2.size 0 (Q.take n++sc.R).length)/\eQ F (kS g K gk) K (.bY M p.1 p.2.size [] (Q.take n++sc.R) []) L'/\(L'.map (·.1)).Nodup/\(∀p∈L',hZ H us p.1=V p.2/\(c p.1=V K\/H p.1=G))/\(∀u∈us,u.1=new\/c u.1=V K)/\(gk=g K\/(pn K=B/\s.free K))/\(hZ H us new=G\/new∈L'.map (·.1)):=λold hl ho hq hu Kg=>by
   subst hl;have eg:kS g K ⟨new,.u p.1,M⟩ K=⟨new,.u p.1,M⟩:=aF rfl;have hlen:(Q.take Q.length++sc.R).length=p8 Q.length sc.R.length:=by rw[nF,gf];rfl
   have CV:(old++xs).length=(Q.take Q.length++sc.R).length*p.2.size:=by rw[gf,ho,dg,hlen];show _=(Q.length+sc.R.length)*_;rw[fS]
   refine ⟨_,[(new,V (.cells p.1 (old++xs)))],⟨new,.u p.1,M⟩,[(new,.cells p.1 (old++xs))],?_,by rw[hlen];exact sA eg,?_,by simp,λq hq=> ?_,λu hu=>.inl (by rw[gg.1 hu]),.inr ⟨by simpa using k6,xX k7⟩,.inr (by simp)⟩
   ·show pI E T H new cl=_;unfold pI;rw[qE];show ay (gj T cl.args.toList) (λaa=>nK E H new .append aa cl.argTypes.toList)=_
    rw[yI,hc3];have e1:gj T [a,y]=V [v,x]:=by
     show cj (dt T a) (cj (dt T y) (V []) λv l=>V (v::l)) (λv l=>V (v::l))=_
     rw[v1,w1];rfl
    rw[e1];show ay (E.ty.get t2) (λi=>aS (Az i.desc) (mP E H new t1 v x) G)=_
    rw[fp h3,k2];show mP E H new t1 v x=_;rw[Nu hi he hie k1 x1 hA.r6,hm0];exact Kg
   ·have:=eQ.bY (F:=F) (g:=kS g K ⟨new,.u p.1,M⟩) (K:=K) (z:=M) (e:=p.1) (s:=p.2.size) (l:= []) (Q:=Q.take Q.length++sc.R) (o:= []) (svs:=old++xs) (L:= []) (by rw[eg]) (λ_ hc=>hR0 (alV.1 hc).2) (λx hx=>by rw[nF] at hx;exact (eV.1 hx).elim (hu x) (x3 x)) (by rw[eg];exact ⟨rfl,by rw[CV];exact cS _⟩) (by rw[<-CV,nF,nF];simpa using hq.append x2) (λp hp=>by cases hp)
    rwa[eg] at this
   ·obtain rfl:=gg.1 hq;exact ⟨show (if new=new then _ else _)=_ from aF rfl,.inr hn⟩
  cases v2 with
  |nil=>exact go [] rfl (by simp) .nil (λr hr=>by cases hr) (by rw[show p8 0 sc.R.length=sc.R.length from cq _];rfl)
  | @sl _ _ id off cp _ _ _ _ e2 svs Ab hF hct hm hu hl q=>
   obtain rfl:=hm.2 rfl;refine go ((svs.drop off).take (n*p.2.size)) Ab (by rw[dE,jq];omega) (.te hu q) hu ?_
   show Gu H new p.1 p.2.size sc.R.length xs id off n (.k n)=_;unfold Gu;rw[(bN _ _).2 hA.n6];have e1:abM n sc.R.length (.k n)=M:=(bN _ _).2 (by
    have:sc.R.length≠0:=λh=>hR0 (sP.1 h)
    show n+1<=n+sc.R.length;omega)
   rw[e1];have e2:ln H id off (A' n p.2.size)=V ((svs.drop off).take (n*p.2.size)):=by
    unfold ln;rw[show jy (H id) off (A' n p.2.size)=V (_,svs) from xw (λi o h=>(r.fr i o h).1) hF]
    show aS (kN (p8 off (A' n p.2.size)) svs.length) (V ((svs.drop off).take (n*p.2.size))) G=_;rw[show kN (p8 off (A' n p.2.size)) svs.length=M from (bN _ _).2 hl]
   show aS M (aS M (ay (ln H id off (A' n p.2.size)) _) _) G=_;rw[fp e2];rfl
 ·cases h
def azu (E:Env) (s:LS) (op:Op) (R:bz) (ob:Prop->cJ):A nc:=
 ay (Xb .append op) λq=>cj (Di E q.2.1) (E.ty.get q.2.2) λp i2=>(match dN s.ts q.1.1 with
  | .sl m e sz n Q=>ay (YM s p.2.size [] (dN s.ts q.1.2) (λR=>R= []) R ob) λsc=>aS ((mL p.2&&Az i2.desc)&&iX m 3) (V ⟨sc.BN,s,.sl m e sz n Q,[]⟩) G
  |_=>G)
def azt {op:Op} {R:bz} {ob:Prop->cJ} (gD:∀P,(ob P).need=P) {r:nc} (h:azu E s op R ob=V r):sd E pn op s r:=by
 obtain ⟨⟨⟨a,y⟩,t1,t2⟩,h1,h0⟩:=aq h;clear h;obtain ⟨cl,rfl,qE,yI,hc3⟩:=FD h1;obtain ⟨p,i2,h2,h3,h⟩:=bT h0;clear h0;dsimp only at h;split at h
 ·rename_i m e sz n Q ha;obtain ⟨sc,h5,h⟩:=aq h;obtain ⟨h6,h⟩:=aZ h;cases h;simp only[bJ] at h6;obtain ⟨⟨k1,k2⟩,k3⟩:=h6;intro hh;obtain ⟨hR0,hS⟩:=O1 gD h5 hh;obtain ⟨i,hi,he,hie⟩:=rZ h2;obtain rfl:=(beq_iff _ _).1 k3;refine .val λ{F g Y c T H} r=> ?_
  obtain ⟨v,v1,v2⟩:=r.val ha (by simp)
  obtain ⟨x,w1,w2⟩:=r.val rfl hS.1;obtain ⟨xs,x1,_⟩:=hS.2 r w2;refine ⟨v,λnew=> ?_,v2⟩
  show pI E T H new cl=_;unfold pI;rw[qE];show ay (gj T cl.args.toList) (λaa=>nK E H new .append aa cl.argTypes.toList)=_
  rw[yI,hc3];have e1:gj T [a,y]=V [v,x]:=by
   show cj (dt T a) (cj (dt T y) (V []) λv l=>V (v::l)) (λv l=>V (v::l))=_
   rw[v1,w1];rfl
  rw[e1];show ay (E.ty.get t2) (λi=>aS (Az i.desc) (mP E H new t1 v x) G)=_
  rw[fp h3,k2];show mP E H new t1 v x=_;rw[Nu hi he hie k1 x1 (by rw[hR0];exact ru _),hR0]
  cases v2<;>rfl
 ·cases h
end
section
variable {F F':Hf} {g g':Gb} {Y:Nat->Ow} {c:Nat->cB} {s s':LS} {T:Tf} {H:Hf} {E:Env} {pn:Nat->Bool}
def TO:AV->AV->A Bool
 | .lit (.str a),.lit (.str b)=>V (U (a=b))
 | .lit (.bool a),.lit (.bool b)=>V (a==b)
 | .lit (.int k (.lit a)),.lit (.int k' (.lit b))=>aS (iD k k') (V (U (a=b))) G
 |_,_=>G
def agP:AV->UD->Bool
 | .lit (.str _),d=>Ia d
 | .lit (.bool _),d=>Pn d
 | .lit (.int k (.lit _)),d=>aqP k d
 |_,_=>B
def ud (k:AV):List (AV×AV)->A (A (Nat×AV))
 | []=>V G
 |e::es=>
  match TO k e.1 with
  |some M=>V (V (0,e.2))
  |some B=>(match ud k es with|some (V p)=>V (V (p.1+1,p.2))|r=>r)
  |none=>G
def RA {k x:AV} {b:Bool} (hu:VA F g u k) (hv:VA F g' v x) (hb:TO k x=V b):sameKey u v=V b/\(b=M->k=x):=by
 unfold TO at hb;split at hb
 ·cases hb;cases hu;cases hv;exact ⟨by show V (GP _ _)=_;rw[yr],λh=>by simp at h;rw[h]⟩
 ·cases hb;cases hu;cases hv;exact ⟨rfl,λh=>by simp at h;rw[h]⟩
 ·obtain ⟨hk,hb⟩:=aZ hb;cases hb;cases hu;cases hv;exact ⟨by show aS (iD _ _) (V (J4 _ _)) G=_;rw[hk,DM],λh=>by simp at h;rw[h,Rz hk]⟩
 ·cases hb
def anP {k:AV} {d:UD} (hu:VA F g u k) (hd:agP k d=M):My u d=M/\(kU k).isEmpty=M:=by
 unfold agP at hd;split at hd
 ·cases hu;exact ⟨hd,rfl⟩
 ·cases hu;exact ⟨hd,rfl⟩
 ·cases hu;exact ⟨(show (M&&aqP _ d)=M by rw[jd];exact hd),rfl⟩
 ·cases hd
def Zq {k:AV} {u:SV} (hu:VA F g u k):∀{es:List (AV×AV)} {ms:iC} (j:Nat),dK F lU (ms.map (·.1)) (es.map (·.1))->dK F lU (ms.map (·.2.1)) (es.map (·.2))->
  (ud k es=V G->rX u ms j=V G)/\∀i x,ud k es=V (V (i,x))->∃v c,rX u ms j=V (V (j+i,v,c))/\VA F lU v x/\es[i]? =V (k,x)/\i<ms.length/\(ms.map (·.2.2))[i]? =V c
 | [],[],j,_,_=>⟨λ_=>rfl,λi x h=>by cases h⟩
 | [],m::ms,j,h,_=>by cases h
 |e::es,[],j,h,_=>by cases h
 |e::es,m::ms,j,h1,h2=>by
  cases h1 with|cons a1 t1=>
  cases h2 with|cons a2 t2=>
  obtain ⟨i1,i2⟩:=Zq hu (es:=es) (ms:=ms) (p8 j 1) t1 t2;constructor
  ·intro hf;unfold ud at hf;unfold rX;split at hf
   ·cases hf
   ·rename_i hk;rw[(RA hu a1 hk).1];show rX u ms (p8 j 1)=_;split at hf
    ·cases hf
    ·exact i1 hf
   ·cases hf
  ·intro i x hf;unfold ud at hf;unfold rX;split at hf
   ·rename_i hk;cases hf;obtain ⟨q1,q2⟩:=RA hu a1 hk;rw[q1];exact ⟨m.2.1,m.2.2,rfl,a2,by rw[q2 rfl];rfl,by simp,by simp⟩
   ·rename_i hk;rw[(RA hu a1 hk).1];show ∃v c,rX u ms (p8 j 1)=_/\_;split at hf
    ·rename_i p hp;cases hf;obtain ⟨v,c,b1,b2,b3,b4,b5⟩:=i2 p.1 p.2 hp;refine ⟨v,c,?_,b2,by simpa using b3,by simpa using b4,by simpa using b5⟩
     rw[b1,show p8 j 1+p.1=j+(p.1+1) from by show j+1+p.1=_;omega]
    ·rename_i cR;exact absurd hf (cR _)
   ·cases hf
def AZ.snoc {c:Nat} (h:AZ ms c):AZ (ms++ [(w,u,c)]) (c+1):=by
 refine ⟨λn hn=> ?_,?_⟩
 ·rw[kh] at hn;rcases eV.1 hn with hn|hn
  ·have:=h.1 n hn;omega
  ·have:n=c:=by simpa using hn
   omega
 ·rw[kh];exact DY.2 ⟨h.2,by simp,λa ha b hb e=>by
   have hb:b=c:=by simpa using hb
   have:=h.1 a ha;omega⟩
def AZ.set {c i:Nat} (h:AZ ms c) (hk:(ms.map (·.2.2))[i]? =V k):AZ (ms.set i (w,u,k)) c:=by
 have e:(ms.set i (w,u,k)).map (·.2.2)=ms.map (·.2.2):=by
  rw[DX];obtain ⟨h1,h2⟩:=bK.1 hk;rw[show (w,u,k).2.2=(ms.map (·.2.2))[i] from h2.symm]
  exact Hr h1
 unfold AZ;rw[e];exact h
def vg (E:Env) (t:ll):A (TI×TI):=ay (E.ty.get t) λi=>ay (G0 i.desc) λq=>cj (E.ty.get q.1) (E.ty.get q.2) λa b=>V (a,b)
def aao {p:TI×TI} (h:vg E t=V p):∃i q,E.ty.get t=V i/\G0 i.desc=V q/\E.ty.get q.1=V p.1/\E.ty.get q.2=V p.2:=by
 obtain ⟨i,hi,h⟩:=aq h;obtain ⟨q,hq,h⟩:=aq h;obtain ⟨a,b,h1,h2,h⟩:=bT h;cases h;exact ⟨i,q,hi,hq,h1,h2⟩
def okM (ok:Bool) (v:AV) (b:Bool):AV:=aS ok (.dq [v,.bool b]) v
def awQ {ok b:Bool} {x:AV} (h:VA F g v x):VA F g (okV ok v b) (okM ok x b):=by
 cases ok
 ·exact h
 ·exact .dq (.cons h (.cons (.lit _) .nil))
def T3 (ok:Bool) (z:A AV):A (Nat×AV)->A AV
 |some r=>V (okM ok r.2 M)
 |none=>ay z λz=>V (okM ok z B)
def adV (es:List (AV×AV)) (k v:AV):A (Nat×AV)->List (AV×AV)
 |some r=>es.set r.1 (k,v)
 |none=>es++ [(k,v)]
def dK.aAP:∀{vs xs} {i:Nat} {v:SV} {x:AV},dK F g vs xs->VA F g v x->dK F g (vs.set i v) (xs.set i x)
 |_,_,_,_,_,.nil,_=>.nil
 |_,_,0,_,_,.cons _ t,k=>.cons k t
 |_,_,i+1,_,_,.cons h t,k=>.cons h (t.aAP k)
def Rel.map (r:Rel F g Y c s T H) {K:Nat} {es:List (AV×AV)} (hb:lk K s.bs=V (.map es)):∃ms cl,Y K= [((g K).n,.map ms cl)]/\H (g K).n=V (.map ms cl)/\dK F lU (ms.map (·.1)) (es.map (·.1))/\dK F lU (ms.map (·.2.1)) (es.map (·.2))/\AZ ms cl:=by
 obtain ⟨q,_,q3⟩:=r.bx K _ hb;generalize Y K=L at q q3;cases q with
 | @map _ ms cl hk hv hw=>exact ⟨ms,cl,rfl,(q3 ((g K).n,.map ms cl) (by simp)).1,hk,hv,hw⟩
def aBk (E:Env) (s:LS) (op:Op) (x:AV) (LB:List (AV×AV)) (ob:Prop->cJ):A nc:=
 match op with
 | .lookup t a c ok=>ay (vg E t) λp=>(match dN s.ts a with
  | .mp K=>(match lk K s.bs with
   |some (.map es)=>aS (agP (dN s.ts c) p.1.desc&&(kU x).isEmpty) (V ⟨[ob (∃f,ud (dN s.ts c) es=V f/\T3 ok (wJ p.2 (zc p.2.zero) 0) f=V x)],s,x,[]⟩) G
   |_=>G)
  |_=>G)
 | .mapUpdate t a c d=>ay (vg E t) λp=>(match dN s.ts a with
  | .mp K=>(match lk K s.bs with
   |some (.map es)=>aS (agP (dN s.ts c) p.1.desc) (ay (H5 (dN s.ts d)) λx'=>aS (kU x').isEmpty (V ⟨[ob (∃f,ud (dN s.ts c) es=V f/\adV es (dN s.ts c) x' f=LB)],s.set K (.map LB),.dq [],[K]⟩) G) G
   |_=>G)
  |_=>G)
 |_=>G
def anQ {k:AV} {d:UD} (h:agP k d=M):k≠ .undef:=λe=>by rw[e] at h;cases h
def aJe {op:Op} {x:AV} {LB:List (AV×AV)} {ob:Prop->cJ} (gD:∀P,(ob P).need=P) {r:nc} (h:aBk E s op x LB ob=V r):sd E pn op s r:=by
 unfold aBk at h;split at h
 ·rename_i t a k ok;obtain ⟨p,hp,h⟩:=aq h;split at h
  ·rename_i K ha;split at h
   ·rename_i es hb;obtain ⟨h1,h⟩:=aZ h;cases h;rw[bJ] at h1;intro hh;have hf:=hh.1;rw[gD] at hf;obtain ⟨f,hf,hx⟩:=hf;obtain ⟨i,q,hi,hq,e1,e2⟩:=aao hp;refine .val λ{F g Y c T H} r=> ?_
    obtain ⟨v,v1,v2⟩:=r.val ha (by simp)
    obtain ⟨w,w1,w2⟩:=r.val rfl (anQ h1.1);cases v2;obtain ⟨ms,cl,_,hH,BY,yF,_⟩:=r.map hb;obtain ⟨m1,m2⟩:=Zq w2 0 BY yF;have key:∃r,rX w ms 0=V r/\∃u,M6 ok (jr p.2 p.2.zero 0) r=V u/\VA F g u x:=by
     cases f with
     |none=>
      obtain ⟨z,hz,hx⟩:=aq hx;cases hx;obtain ⟨u,u1,u2⟩:=yz (uZ (F:=F) (g:=lU) (vs:=p.2.zero)) hz;exact ⟨G,m1 hf,okV ok u B,by show ay (jr p.2 p.2.zero 0) (λz=>V (okV ok z B))=_;rw[u1];rfl,(awQ u2).tf h1.2⟩
     |some r=>
      cases hx;obtain ⟨v,c,b1,b2,_⟩:=m2 r.1 r.2 hf;exact ⟨_,b1,okV ok v M,rfl,(awQ b2).tf h1.2⟩
    obtain ⟨r',k1,u,u1,u2⟩:=key;refine ⟨u,λnew=> ?_,u2⟩
    show two T a k (λa b=>same (wL E H t a b ok))=_
    rw[two,v1,w1];show same (wL E H t (.mp (g K).n) w ok)=_;unfold wL;rw[fp hi,fp hq,E5 e1 e2,(anP w2 h1.1).1];show same (ay (ay (kZ (H (g K).n)) λp=>V p.1) λes=>ay (rX w es 0) λr=>M6 ok (jr p.2 p.2.zero 0) r)=_
    rw[hH];show same (ay (rX w ms 0) λr=>M6 ok (jr p.2 p.2.zero 0) r)=_
    rw[k1];show same (M6 ok (jr p.2 p.2.zero 0) r')=_;rw[u1];rfl
   ·cases h
  ·cases h
 ·rename_i t a k d;obtain ⟨p,hp,h⟩:=aq h;split at h
  ·rename_i K ha;split at h
   ·rename_i es hb;obtain ⟨h1,h⟩:=aZ h;obtain ⟨x',h2,h⟩:=aq h;obtain ⟨rfl,cR⟩:=qw h2;obtain ⟨h3,h⟩:=aZ h;cases h;intro hh;have hf:=hh.1;rw[gD] at hf;obtain ⟨f,hf,rfl⟩:=hf;obtain ⟨i,q,hi,hq,e1,e2⟩:=aao hp;refine .wr hb λ{F g Y c T H} r=> ?_
    obtain ⟨v,v1,v2⟩:=r.val ha (by simp)
    obtain ⟨w,w1,w2⟩:=r.val rfl (anQ h1);obtain ⟨u,u1,u2⟩:=r.val rfl cR;cases v2;obtain ⟨ms,cl,hφ,hH,BY,yF,hw⟩:=r.map hb;obtain ⟨hlk,hkk⟩:=anP w2 h1;obtain ⟨m1,m2⟩:=Zq w2 0 BY yF;have key:∃r,rX w ms 0=V r/\∃FO cl',adW ms cl w u r= .map FO cl'/\dK F lU (FO.map (·.1)) ((adV es (dN s.ts k) (dN s.ts d) f).map (·.1))/\dK F lU (FO.map (·.2.1)) ((adV es (dN s.ts k) (dN s.ts d) f).map (·.2))/\AZ FO cl':=by
     cases f with
     |none=>
      refine ⟨G,m1 hf,ms++ [(w,u,cl)],p8 cl 1,rfl,?_,?_,hw.snoc⟩
      ·show dK F lU ((ms++ [(w,u,cl)]).map (·.1)) ((es++ [(dN s.ts k,dN s.ts d)]).map (·.1))
       rw[kh,kh];exact BY.append (.cons (w2.tf hkk) .nil)
      ·show dK F lU ((ms++ [(w,u,cl)]).map (·.2.1)) ((es++ [(dN s.ts k,dN s.ts d)]).map (·.2))
       rw[kh,kh];exact yF.append (.cons (u2.tf h3) .nil)
     |some r=>
      obtain ⟨v,c,b1,b2,b3,b4,b5⟩:=m2 r.1 r.2 hf;refine ⟨_,b1,ms.set (0+r.1) (w,u,c),cl,rfl,?_,?_,hw.set (by rw[cq];exact b5)⟩
      ·show dK F lU ((ms.set (0+r.1) (w,u,c)).map (·.1)) ((es.set r.1 (dN s.ts k,dN s.ts d)).map (·.1))
       rw[DX,DX,cq];exact BY.aAP (w2.tf hkk)
      ·show dK F lU ((ms.set (0+r.1) (w,u,c)).map (·.2.1)) ((es.set r.1 (dN s.ts k,dN s.ts d)).map (·.2))
       rw[DX,DX,cq];exact yF.aAP (u2.tf h3)
    obtain ⟨r',k1,FO,cl',k2,k3,k4,k5⟩:=key;refine ⟨.dq [],_,.map FO cl',[],[],hφ,λnew=> ?_,.dq .nil,.map k3 k4 k5,.refl _⟩
    show two T a k (λa b=>one T d λc=>unit (Co E H t a b c))=_
    unfold two one;rw[v1,w1];show ay (dt T d) (λc=>unit (Co E H t (.mp (g K).n) w c))=_
    rw[u1];show unit (Co E H t (.mp (g K).n) w u)=_;have e1:Co E H t (.mp (g K).n) w u=V [((g K).n,V (.map FO cl'))]:=by
     show ay (E.ty.get t) (λi=>ay (G0 i.desc) λq=>cj (E.ty.get q.1) (kZ (H (g K).n)) λik p=>aS (My w ik.desc) (ay (rX w p.1 0) λr=>V [((g K).n,V (adW p.1 p.2 w u r))]) G)=_
     rw[fp hi,fp hq,hH,E5 e1 (show kZ (V (SO.map ms cl))=V (ms,cl) from rfl),hlk];show ay (rX w ms 0) (λr=>V [((g K).n,V (adW ms cl w u r))])=_
     rw[k1];show V [((g K).n,V (adW ms cl w u r'))]=_;rw[k2]
    rw[e1];rfl
   ·cases h
  ·cases h
 ·cases h
inductive Pl where
 |row (R:bc) (fs:bP)
 |nat (k:Nat)
 |ur (Q:bz)
 |app (w:Bool) (R Q:bz) (n:Nat)
 |L5
 |cut (l u:Nat) (R:bz) (n:Nat)
 |mk (z:bc) (Q:bz) (l:Nat) (sh:ep)
 |val (n:Nat)
 |lkp (x:AV) (es:List (AV×AV))
 |eqv (y:AV)
 |laid (b:Bx)
 |Ge (R Q:bz) (m:Nat)
 |aCS (R:bz) (n:Nat)
 |ast (R Q:bz) (n:Nat)
 |ass (R:bz)
def SN (E:Env) (pn:Nat->Bool) (s:LS) (d:cB) (op:Op):A nc:=
 (Tk E s op).elim ((Tj E s op).elim ((are E s op).elim (ay d λK=>aS (!pn K&&F7 s K) (ay (agk E s K op) λp=>V ⟨[],s.set K p.1,p.2,[K]⟩) G) V) λp=>V ⟨[],s.set p.1 p.2,.dq [],[p.1]⟩) λx=>V ⟨[],s,x,[]⟩
def Q8 {op:Op} {r:nc} (h:SN E pn s d op=V r):sd E pn op s r:=by
 unfold SN at h;cases h1:Tk E s op with
 |some x=>rw[h1] at h;cases h;exact λ_=>awr h1
 |none=>
  rw[h1] at h;cases h2:Tj E s op with
  |some x=>rw[h2] at h;cases h;exact λ_=>awp h2
  |none=>
   rw[h2] at h;cases h3:are E s op with
   |some x=>rw[h3] at h;cases h;exact aJr h3
   |none=>
    rw[h3] at h;obtain ⟨K,_,h⟩:=aq h;obtain ⟨h4,h⟩:=aZ h;obtain ⟨p,h5,h⟩:=aq h;cases h;rw[bJ] at h4;exact λ_=>awq (xX h4.2) (by simpa using h4.1) h5
def apT (E:Env) (pn:Nat->Bool) (s:LS) (d:cB) (op:Op) (pl:Pl) (ob:Prop->cJ):A nc:=
 match pl with
 | .row R fs=>aAS E s op R fs ob
 | .nat k=>aBB E s op k ob
 | .ur Q=>aAG E s op Q ob
 | .app w R Q n=>appI E pn s d op w R Q n ob
 | .L5=>tapI E pn s d op ob
 | .cut l u R n=>aCV E s op l u R n ob
 | .mk z Q l sh=>mkI E pn s d op z Q l sh ob
 | .val n=>aAA E s op n ob
 | .lkp x es=>aBk E s op x es ob
 | .Ge R Q m=>cpyI E s op R Q m ob
 | .aCS R n=>arO E s op R n ob
 | .ast R Q n=>aHj E pn s d op R Q n ob
 | .ass R=>azu E s op R ob
 | .eqv y=>ay (SN E pn s d op) λr=>V ⟨ob (r.x=y)::r.BN,r.s,y,r.W⟩
 | .laid b=>cj d (SN E pn s d op) λK r=>V ⟨ob (lk K r.s.bs=V b)::r.BN,r.s.set K b,r.x,r.W⟩
def aef {op:Op} {pl:Pl} {ob:Prop->cJ} (gD:∀P,(ob P).need=P) {r:nc} (h:apT E pn s d op pl ob=V r):sd E pn op s r:=by
 cases pl with
 |row=>exact aIK gD h
 |nat=>exact aJq gD h
 |ur=>exact aIj gD h
 |app=>exact aJQ gD h
 |L5=>exact aIi gD h
 |cut=>exact aJy gD h
 |mk=>exact aLq gD h
 |val=>exact aIg gD h
 |lkp=>exact aJe gD h
 |Ge=>exact aJB gD h
 |aCS=>exact aCW gD h
 |ast=>exact aDg gD h
 |ass=>exact azt gD h
 |eqv y=>
  obtain ⟨r0,h1,h⟩:=aq h;cases h;intro ho;obtain ⟨o1,o2⟩:=ho;rw[gD] at o1;subst o1;exact (show Ok E pn op s r0.s r0.x r0.W from Q8 h1 o2)
 |laid b=>
  obtain ⟨K,r0,_,h1,h⟩:=bT h;cases h;intro ho;obtain ⟨o1,o2⟩:=ho;rw[gD] at o1;have h2:=Q8 h1 o2;refine ⟨λ{F g Y c T H new} r hn=> ?_⟩
  obtain ⟨v,us,g',φ',c',a1,a2,a3,a4⟩:=h2.go r hn;refine ⟨v,us,g',φ',c',a1,a2,a3.sub (λ_ _ h=>h) λk b' hb=> ?_,a4⟩
  rw[show (r0.s.set K b).bs=(K,b)::r0.s.bs from rfl,dD] at hb;split at hb
  ·rename_i e;rw[e,o1];exact hb
  ·exact hb
end
section
variable {F F':Hf} {g g':Gb} {Y:Nat->Ow} {c:Nat->cB} {s s':LS} {T:Tf} {H:Hf} {E:Env} {pn:Nat->Bool}
variable {K2:Nat}
mutual
def Kj (K:Nat) (D:Nat->Nat->AV) (L:Nat->Nat->AV):AV->AV
 | .agg cs=>.agg (F6 K D L cs)
 | .dq cs=>.dq (F6 K D L cs)
 | .fn f a b=>.fn f (F6 K D L a) (F6 K D L b)
 | .ms k s lo n=>aS (iX k K) (D s lo) (.ms k s lo n)
 | .el k s j f=>aS (iX k K) (L j f) (.el k s j f)
 |x=>x
def F6 (K:Nat) (D:Nat->Nat->AV) (L:Nat->Nat->AV):bc->bc
 | []=> []
 |x::l=>Kj K D L x::F6 K D L l
end
mutual
def agx (K sz:Nat):AV->bP
 | .agg cs=>FI K sz cs
 | .dq cs=>FI K sz cs
 | .fn f a b=>FI K sz a++FI K sz b
 | .ms k s lo n=>aS (iX k K&&(iX s sz&&iX lo 0)) [n] []
 |_=> []
def FI (K sz:Nat):bc->bP
 | []=> []
 |x::l=>agx K sz x++FI K sz l
end
mutual
def anT {K sz:Nat} {D:Nat->Nat->AV} {L:Nat->Nat->AV} {N:Nat->Prop} (h1:∀{v s lo n},(s=sz->lo=0->N n)->VA F g v (.ms K s lo n)->VA F g v (D s lo)) (h2:∀{v s j f},VA F g v (.el K s j f)->VA F g v (L j f)):∀{x:AV} {v:SV},(∀n∈agx K sz x,N n)->VA F g v x->VA F g v (Kj K D L x)
 | .agg cs,_,hn,.agg q=>.agg (AP h1 h2 hn q)
 | .dq cs,_,hn,.dq q=>.dq (AP h1 h2 hn q)
 | .fn f a b,_,hn,.fn _ q1 q2=>.fn _ (AP h1 h2 (λn h=>hn n (iu _ h)) q1) (AP h1 h2 (λn h=>hn n (jo _ h)) q2)
 | .ms k s lo n,v,hn,q=>by
  show VA F g v (aS (iX k K) (D s lo) (.ms k s lo n));rw[cI];split
  ·rename_i e;obtain rfl:=(beq_iff _ _).1 e;refine h1 (λe1 e2=>hn n ?_) q
   show n∈aS (iX k k&&(iX s sz&&iX lo 0)) [n] [];rw[e,(beq_iff _ _).2 e1,(beq_iff _ _).2 e2];exact gg.2 rfl
  ·exact q
 | .el k s j f,v,hn,q=>by
  show VA F g v (aS (iX k K) (L j f) (.el k s j f));rw[cI];split
  ·rename_i e;obtain rfl:=(beq_iff _ _).1 e;exact h2 q
  ·exact q
 | .lit _,_,_,q| .sl ..,_,_,q| .kH _,_,_,q| .mp _,_,_,q| .it _,_,_,q| .undef,_,_,q=>q
def AP {K sz:Nat} {D:Nat->Nat->AV} {L:Nat->Nat->AV} {N:Nat->Prop} (h1:∀{v s lo n},(s=sz->lo=0->N n)->VA F g v (.ms K s lo n)->VA F g v (D s lo)) (h2:∀{v s j f},VA F g v (.el K s j f)->VA F g v (L j f)):∀{x:bc} {v:bf},(∀n∈FI K sz x,N n)->dK F g v x->dK F g v (F6 K D L x)
 |_,_,_,.nil=>.nil
 |_,_,hn,.cons q t=>.cons (anT h1 h2 (λn h=>hn n (iu _ h)) q) (AP h1 h2 (λn h=>hn n (jo _ h)) t)
end
def Bx.mapV (k:AV->AV) (ks:bc->bc):Bx->Bx
 | .flat e cs=>.flat e (ks cs)
 | .bY z e s l Q o=>.bY z e s l Q (o.map λp=>(p.1,k p.2))
 |b=>b
def Y7 (K sz:Nat):fq->bP
 | []=> []
 |p::l=>agx K sz p.2++Y7 K sz l
def Y8 (K sz:Nat):cZ->bP
 | []=> []
 |p::l=>(match p.2 with| .flat _ cs=>FI K sz cs| .bY _ _ _ _ _ o=>Y7 K sz o|_=> [])++Y8 K sz l
def Rs {K sz n t:Nat} {x:AV}:∀{l:fq},(t,x)∈l->n∈agx K sz x->n∈Y7 K sz l
 |p::l,h,hn=>(da.1 h).elim (λe=>iu _ (e ▸ hn)) λh=>jo _ (Rs h hn)
def LS.eB (s:LS) (K:Nat) (D:Nat->Nat->AV) (L:Nat->Nat->AV):LS:=⟨s.ts.map λp=>(p.1,Kj K D L p.2),(lI K s.bs).map λp=>(p.1,p.2.mapV (Kj K D L) (F6 K D L))⟩
def noK (x:AV):AV:=aS (kU x).isEmpty x .undef
def aLm {x:AV} (q:VA F g v x):VA F g' v (noK x):=by
 unfold noK;rw[cI];split
 ·rename_i h;exact q.tf h
 ·exact .undef v
def anA:∀{vs xs},dK F g vs xs->dK F g' vs (xs.map noK)
 |_,_,.nil=>.nil
 |_,_,.cons q t=>.cons (aLm q) (anA t)
def CD (m n:Nat) (b:Bx) (s lo:Nat):AV:=
 match b with
 | .bY z e sz _ Q _=>aS (iX s sz&&iX lo 0) (.sl (aS (iX m 2) 2 (aS z 1 0)) e sz n Q) .undef
 |_=>.undef
def Ki (b:Bx) (j f:Nat):AV:=
 match b with
 | .flat _ cs=>aS (iX j 0&&kN f cs.length) (.kH ((cs.map noK).drop f)) .undef
 |_=>.undef
def Bx.L6 (b:Bx):Nat×bz:=
 match b with
 | .bY _ _ sz _ Q _=>(sz,Q)
 |_=>(0,[])
def LS.ahx (s:LS) (K m n:Nat) (b:Bx):LS:=s.eB K (CD m n b) (Ki b)
def ahw (s:LS) (K n:Nat) (b:Bx) (ob:Prop->cJ):List cJ:=ob (b.L6.2.length=n)::(Y7 K b.L6.1 s.ts++Y8 K b.L6.1 s.bs).map λn'=>ob (b.L6.2.length=n')
def aid {J:Type} {f:J->cJ}:∀{l:List J},jA (l.map f)->∀x∈l,(f x).need
 |y::l,h,x,hx=>(da.1 hx).elim (λe=>e ▸ h.1) λhx=>aid h.2 x hx
def Rt {K sz n k:Nat} {b:Bx}:∀{l:cZ},(k,b)∈l->(n∈match b with| .flat _ cs=>FI K sz cs| .bY _ _ _ _ _ o=>Y7 K sz o|_=> [])->n∈Y8 K sz l
 |p::l,h,hn=>(da.1 h).elim (λe=>iu _ (e ▸ hn)) λh=>jo _ (Rt h hn)
def Rel.eB (r:Rel F g Y c s T H) {m:Nat} {b:Bx} {ob:Prop->cJ} (gD:∀P,(ob P).need=P) (hb:lk K s.bs=V b) (ho:jA (ahw s K n b ob)):∃F' c',od F F'/\((∀i k,c' i=V k->c i=V k)/\(∀i,F' i≠G->F i≠G\/c i=V K)/\(∀i,c i≠V K->c' i=c i)/\∀i,c' i≠V K)/\Rel F' g Y c' (s.ahx K m n b) T H:=by
 obtain ⟨F',c',hF,hcw,hK,r'⟩:=r.sink K;have hK:=hK b hb;have q:=(r.bx K b hb).1;refine ⟨F',c',hF,hcw,?_⟩;obtain ⟨hn,ho⟩:=ho;rw[gD] at hn;have h1:∀{v s lo n'},(s=b.L6.1->lo=0->b.L6.2.length=n')->VA F' g v (.ms K s lo n')->VA F' g v (CD m n b s lo):=λ{v s lo n'} fP hv=>by
  unfold CD;split
  ·rename_i z e sz l Q o;rw[cI];split
   ·rename_i h;simp only[bJ] at h;obtain ⟨k1,k2⟩:=h;obtain rfl:=(beq_iff _ _).1 k1;obtain rfl:=(beq_iff _ _).1 k2;have fP:Q.length=n':=fP rfl rfl;have hn:Q.length=n:=hn;have hmz:aS (iX m 2) 2 (aS z 1 0)=1->z=M:=λe=>by
     rw[cI] at e;split at e
     ·cases e
     ·cases z<;>first|rfl|cases e
    generalize Y K=L at q hK;cases q with
    |nil MY=>
     cases hv with
     |sA=>subst hn;exact .nil _ _ _
     |ms _ _ _ h=>rw[MY] at h;cases h
     |zb _ _ h=>cases h
    | @bY _ _ _ _ _ _ svs L sE hz hu hc q ho=>
     cases hv with
     |sA _ h=>rw[sE] at h;cases h
     |zb _ _ h=>cases h
     |ms=>
      rw[ng];subst hn;subst fP;refine .sl rfl (tN (hK ((g K).n,.cells e svs) (by simp))) ?_ ⟨λe=>hz (hmz e),λe=>by rw[cI] at e;split at e;(·cases e);(·cases z<;>cases e)⟩ hu (by rw[cq];exact oU hc) (by rw[pF];exact q.data hF λp hp=>hK p (dW _ hp))
      have:=aoj hc;cases hκ:(g K).c<;>rw[hκ] at this<;>exact this
   ·exact .undef v
  ·exact .undef v
 have h2:∀{v s j f},VA F' g v (.el K s j f)->VA F' g v (Ki b j f):=λ{v s j f} hv=>by
  unfold Ki;split
  ·rename_i e cs;rw[cI];split
   ·rename_i hf;rw[bJ] at hf;obtain rfl:=(beq_iff _ _).1 hf.1;have hf:f<=cs.length:=(bN _ _).1 hf.2;cases hv;generalize Y K=L at q hK;cases q with
    | @flat _ _ svs q=>
     have hl:=q.length;rw[ng,cq];refine .kH (tN (hK ((g K).n,.cells e svs) (by simp))) (by rw[jq,my];omega) ?_
     rw[jq,my,iT (by rw[jq];omega)]
     exact ((anA q).mono hF).drop f
   ·exact .undef v
  ·exact .undef v
 have hN:=aid ho;have vaA:∀{x v},(∀n∈agx K b.L6.1 x,n∈Y7 K b.L6.1 s.ts++Y8 K b.L6.1 s.bs)->VA F' g v x->VA F' g v (Kj K (CD m n b) (Ki b) x):=λ{x v} hx q=>anT (N:=λn=>b.L6.2.length=n) h1 h2 (λn hn=>by have:=hN n (hx n hn);rwa[gD] at this) q
 refine r'.aqe (ft:=λ_=>Kj K (CD m n b) (Ki b)) (fb:=λ_ b'=>b'.mapV (Kj K (CD m n b) (Ki b)) (F6 K (CD m n b) (Ki b))) r'.fr (λ_=>rfl) (λt v x hx q=>vaA (λn hn=>iu _ (Rs (pJ hx) hn)) q) λk b' L hk q=> ?_
 have hk:lk k s.bs=V b':=by
  have hk:lk k (lI K s.bs)=V b':=hk;rw[xR] at hk;split at hk
  ·cases hk
  ·exact hk
 cases q with
 |flat q=>exact .flat (AP (N:=λn=>b.L6.2.length=n) h1 h2 (λn hn=>by have:=hN n (jo _ (Rt (pJ hk) hn));rwa[gD] at this) q)
 |nil h=>exact .nil h
 |bY hb hz hu hc q ho=>
  refine .bY hb hz hu hc q λp hp=> ?_
  obtain ⟨p0,hp0,rfl⟩:=dJ.1 hp;obtain ⟨v,v1,v2⟩:=ho p0 hp0;exact ⟨v,v1,vaA (λn hn=>jo _ (Rt (pJ hk) (Rs (t:=p0.1) hp0 hn))) v2⟩
 |map h1 h2 h3=>exact .map h1 h2 h3
 |iter=>exact .iter
def Rel.JL (r:Rel F g Y c s T H) {b b':Bx} (hb:lk K s.bs=V b) (h:∀{L},eQ F g K b L->∃L',L'.Sublist L/\eQ F g K b' L'):∃φ' c',(∀i k,c' i=V k->c i=V k)/\Rel F g φ' c' (s.set K b') T H:=by
 obtain ⟨q,nd,own⟩:=r.bx K b hb;obtain ⟨L',hs,q'⟩:=h q;obtain ⟨c',r',_,hc,_⟩:=r.chg q' ((hs.map _).nodup nd) (λp hp=>⟨(own p (hs.subset hp)).1,.inl (own p (hs.subset hp)).2⟩) (λi hi=>absurd rfl hi) (.inl rfl)
 refine ⟨_,c',λi k hk=> ?_,r'⟩
 rcases hc i k hk with h|⟨rfl,hm⟩
 ·exact h
 ·obtain ⟨p,hp,rfl⟩:=dJ.1 hm;exact (own p (hs.subset hp)).2
def kJ.JL {b b':Bx} (hb:lk K s.bs=V b) (h:∀{F g L},eQ F g K b L->∃L',L'.Sublist L/\eQ F g K b' L'):kJ pn s (s.set K b'):=.mk λ{F g Y c T H} r=>
 let ⟨φ',c',_,r'⟩:=r.JL hb h
 ⟨F,g,φ',c',.refl _,λ_ _=>rfl,r'⟩
def lB.foc:∀{l vs xs L} {k:Nat} {x:AV},lB F l vs xs L->xs[k]? =V x->∃v L1 L0 L2,vs[k]? =V v/\L=L1++(L0++L2)/\TC F ((l.drop k).headD .d) v x L0/\∀y Jc,TC F ((l.drop k).headD .d) v y Jc->lB F l vs (xs.set k y) (L1++(Jc++L2))
 |_,_,_,_,_,_,.nil,h=>by cases h
 |l,_,_,_,0,x,.cons (v:=v) (b:=b) q t,h=>by
  obtain rfl:=lp (show V _=V x from h);exact ⟨v,[],_,b,rfl,rfl,q,λy Jc q'=>show lB F l _ _ (Jc++b) from .cons q' t⟩
 |l,_,_,_,k+1,x,.cons (a:=a) q t,h=>by
  obtain ⟨v,L1,L0,L2,h1,h2,h3,h4⟩:=t.foc (k:=k) (by simpa using h)
  have e:l.drop (k+1)=l.tail.drop k:=by cases l<;>simp
  rw[e];refine ⟨v,a++L1,L0,L2,by simpa using h1,by rw[h2,lr],h3,λy Jc q'=> ?_⟩
  rw[lr];exact .cons q (h4 y Jc q')
def TR.foc {s:Nat}:∀{l vs Q L} {j k:Nat} {R:bc} {x:AV},TR F l vs Q L->(∀r∈Q,r.length=s)->Q[j]? =V R->R[k]? =V x->∃v L1 L0 L2,vs[j*s+k]? =V v/\L=L1++(L0++L2)/\TC F ((l.drop k).headD .d) v x L0/\∀y Jc,TC F ((l.drop k).headD .d) v y Jc->TR F l vs (Q.set j (R.set k y)) (L1++(Jc++L2))
 |_,_,_,_,_,_,_,_,.nil,_,h,_=>by cases h
 |l,_,_,_,0,k,R,x,.cons (vs:=vs) (b:=b) q t,hu,h,hx=>by
  obtain rfl:=lp (show V _=V R from h);obtain ⟨v,L1,L0,L2,h1,h2,h3,h4⟩:=q.foc hx;refine ⟨v,L1,L0,L2++b,?_,by rw[h2];simp,h3,λy Jc q'=>by have:=TR.cons (h4 y Jc q') t;simpa using this⟩
  rw[ng,cq,pE (bK.1 h1).1];exact h1
 |l,_,_,_,j+1,k,R,x,.cons (vs:=vs) (a:=a) q t,hu,h,hx=>by
  obtain ⟨v,L1,L0,L2,h1,h2,h3,h4⟩:=t.foc (λr hr=>hu r (dW _ hr)) (show _=V R by simpa using h) hx
  have hv:vs.length=s:=by rw[q.length];exact hu _ (kg)
  refine ⟨v,a++L1,L0,L2,?_,by rw[h2,lr],h3,λy Jc q'=> ?_⟩
  ·rw[nY (by rw[hv,fS];omega),hv,show (j+1)*s+k-s=j*s+k by rw[fS];omega]
   exact h1
  ·rw[lr];exact .cons q (h4 y Jc q')
def tv:ep->Bool
 | []=>M
 | .d::l=>tv l
 |_=>B
def Gv:∀{l:ep},tv l=M->l.headD .d= .d/\tv l.tail=M
 | [],_=>⟨rfl,rfl⟩
 | .d::l,h=>⟨rfl,h⟩
def lB.tv:∀{l l' vs xs L},bL.tv l=M->bL.tv l'=M->lB F l vs xs L->lB F l' vs xs L
 |_,_,_,_,_,_,_,.nil=>.nil
 |l,l',_,_,_,h,h',.cons q t=>.cons (by rw[(Gv h').1,<-(Gv h).1];exact q) (t.tv (Gv h).2 (Gv h').2)
def TR.tv:∀{l l' vs xs L},bL.tv l=M->bL.tv l'=M->TR F l vs xs L->TR F l' vs xs L
 |_,_,_,_,_,_,_,.nil=>.nil
 |_,_,_,_,_,h,h',.cons q t=>.cons (q.tv h h') (t.tv h h')
mutual
def aCF:Sh->Sh->Bool
 | .d,.d=>M
 | .o x l,.o y m=>(x==y)&&Pu l m
 |_,_=>B
def Pu:ep->ep->Bool
 | [],[]=>M
 |x::l,y::m=>aCF x y&&Pu l m
 |_,_=>B
end
mutual
def aJu:∀{a b:Sh},aCF a b=M->a=b
 | .d,.d,_=>rfl
 | .o x l,.o y m,h=>by
  have h:=j4.1 (show ((x==y)&&Pu l m)=M from h);rw[eq_of_beq h.1,RQ h.2]
 | .d,.o _ _,h=>by cases (show B=M from h)
 | .o _ _,.d,h=>by cases (show B=M from h)
def RQ:∀{a b:ep},Pu a b=M->a=b
 | [],[],_=>rfl
 |x::l,y::m,h=>by
  have h:=j4.1 (show (aCF x y&&Pu l m)=M from h);rw[aJu h.1,RQ h.2]
 | [],_::_,h=>by cases (show B=M from h)
 |_::_,[],h=>by cases (show B=M from h)
end
def afO (l l':ep) (Q:bz):Bool:=Pu l l'||((tv l&&tv l')||(match Q with| []=>M|_=>B))
def amO {l l':ep} {Q:bz} (h:afO l l' Q=M) {L:Ow} (q:TR F l vs Q L):TR F l' vs Q L:=by
 unfold afO at h;rw[sU,sU,bJ] at h;rcases h with h|h|h
 ·rw[<-RQ h];exact q
 ·exact q.tv h.1 h.2
 ·split at h
  ·cases q;exact .nil
  ·cases h
open Classical in
def Rel.split (r:Rel F g Y c s T H) {b b1 b2:Bx} {L1 L2:Ow} (hb:lk K s.bs=V b) (hk:s.free K2) (hn:lk K2 s.bs=G) (hg:∀k,k≠K2->g' k=g k) (h1:eQ F g' K b1 L1) (h2:eQ F g' K2 b2 L2) (hs:∀p∈L1++L2,p∈Y K) (nd:((L1++L2).map (·.1)).Nodup):
  Rel F g' (kS (kS Y K L1) K2 L2) (λi=>if i∈L2.map (·.1) then V K2 else c i) ⟨s.ts,(K2,b2)::(K,b1)::s.bs⟩ T H:=by
 obtain ⟨_,_,own⟩:=r.bx K b hb;have cR:K≠K2:=λe=>by rw[e,hn] at hb;cases hb
 rw[kh] at nd;obtain ⟨n1,n2,n3⟩:=DY.1 nd;have off:∀{k i},k≠K->c i=V k->i∉L2.map (·.1):=λ{k i} hk hc hm=>by
  obtain ⟨p,hp,rfl⟩:=dJ.1 hm;rw[(own p (hs p (jo _ hp))).2] at hc;exact hk (lp hc).symm
 refine ⟨λt x hx hu=> ?_,λk b' jv=> ?_,λi o hi=>⟨(r.fr i o hi).1,?_⟩,λi hi=> ?_⟩
 ·obtain ⟨v,v1,v2⟩:=r.tm t x hx hu;exact ⟨v,v1,v2.same (.refl F) λk jv=>hg k λe=>hk.1 t x hx (e ▸ jv)⟩
 ·rw[show ({ts:=s.ts,bs:=(K2,b2)::(K,b1)::s.bs}:LS).bs=(K2,b2)::(K,b1)::s.bs from rfl,dD,dD] at jv;unfold kS;split at jv
  ·rename_i e;cases jv;rw[aF e,e];exact ⟨h2,n2,λp hp=>⟨(own p (hs p (jo _ hp))).1,aF (dJ.2 ⟨p,hp,rfl⟩)⟩⟩
  ·rename_i e2;rw[aC e2];split at jv
   ·rename_i e;cases jv;rw[aF e,e];refine ⟨h1,n1,λp hp=>⟨(own p (hs p (iu _ hp))).1,?_⟩⟩
    rw[aC λhm=>n3 p.1 (dJ.2 ⟨p,hp,rfl⟩) p.1 hm rfl]
    exact (own p (hs p (iu _ hp))).2
   ·rename_i e;rw[aC e];obtain ⟨q1,q2,q3⟩:=r.bx k b' jv;refine ⟨q1.same (.refl F) (hg k e2) λj hj=>hg j λe=>hk.2 k b' e2 jv (e ▸ hj),q2,λp hp=>⟨(q3 p hp).1,?_⟩⟩
    rw[aC (off e (q3 p hp).2)];exact (q3 p hp).2
 ·have:=(r.fr i o hi).2;rw[aC λhm=> ?_]
  ·exact this
  ·obtain ⟨p,hp,rfl⟩:=dJ.1 hm;rw[(own p (hs p (jo _ hp))).2] at this;cases this
 ·rw[aC λhm=> ?_]
  ·exact r.cn i hi
  ·obtain ⟨p,hp,rfl⟩:=dJ.1 hm;have:=(own p (hs p (jo _ hp))).1;rw[hi] at this;cases this
open Classical in
def Rel.join (r:Rel F g Y c s T H) {b b1 b2:Bx} {L1:Ow} (hb:lk K s.bs=V b) (hb2:lk K2 s.bs=V b2) (cR:K≠K2) (h1:eQ F g K b1 L1) (hs:∀p∈L1,p∈Y K\/p∈Y K2) (nd:(L1.map (·.1)).Nodup):
  Rel F g (kS Y K L1) (λi=>if i∈L1.map (·.1) then V K else c i) ⟨s.ts,(K,b1)::lI K2 s.bs⟩ T H:=by
 have o1:=(r.bx K b hb).2.2;have o2:=(r.bx K2 b2 hb2).2.2;have own:∀p∈L1,H p.1=V p.2/\(c p.1=V K\/c p.1=V K2):=λp hp=>(hs p hp).elim (λh=>⟨(o1 p h).1,.inl (o1 p h).2⟩) λh=>⟨(o2 p h).1,.inr (o2 p h).2⟩
 refine ⟨r.tm,λk b' jv=> ?_,λi o hi=>⟨(r.fr i o hi).1,?_⟩,λi hi=> ?_⟩
 ·rw[show ({ts:=s.ts,bs:=(K,b1)::lI K2 s.bs}:LS).bs=(K,b1)::lI K2 s.bs from rfl,dD,xR] at jv;unfold kS;split at jv
  ·rename_i e;cases jv;rw[aF e,e];exact ⟨h1,nd,λp hp=>⟨(own p hp).1,aF (dJ.2 ⟨p,hp,rfl⟩)⟩⟩
  ·rename_i e;split at jv
   ·cases jv
   ·rename_i e2;rw[aC e];obtain ⟨q1,q2,q3⟩:=r.bx k b' jv;refine ⟨q1,q2,λp hp=>⟨(q3 p hp).1,?_⟩⟩
    rw[aC λhm=> ?_]
    ·exact (q3 p hp).2
    ·obtain ⟨p',BW,e'⟩:=dJ.1 hm;have:=(own p' BW).2;rw[show p'.1=p.1 from e',(q3 p hp).2] at this;rcases this with h|h
     ·exact e (lp h)
     ·exact e2 (lp h)
 ·have:=(r.fr i o hi).2;rw[aC λhm=> ?_]
  ·exact this
  ·obtain ⟨p,hp,rfl⟩:=dJ.1 hm;rcases (own p hp).2 with h|h<;>(rw[h] at this;cases this)
 ·rw[aC λhm=> ?_]
  ·exact r.cn i hi
  ·obtain ⟨p,hp,rfl⟩:=dJ.1 hm;have:=(own p hp).1;rw[hi] at this;cases this
end
end Go.bL
end
