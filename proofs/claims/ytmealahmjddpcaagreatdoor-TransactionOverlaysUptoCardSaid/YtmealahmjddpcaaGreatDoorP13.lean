/- Texts that belong together. The first: Plain laws: TransactionOverlays. Condition: bounded input, enough steps. -/
import Derived.Test.YtmealahmjddpcaaGreatDoorP12
import Derived.Test.YtmealahmjddpcaaGreatDoorP10
set_option linter.all false
noncomputable section
namespace Go.Proofs.YtmealahmjddpcaaGreatDoor
open Go.Sim
def Sm (ts:cN):Prop:=ts.length<=1000/\∀rows∈ts,rows.length<=1000/\∀r∈rows,r.length<=1000
theorem MB (n0:Nat) (a:Wq8) (hl:a.length<=1000) (hr:∀r∈a,r.length<=1000):∀(x:Wq8) (i m:Nat),a.drop i=x->x.length+2000<m->yo (G8 n0) m a a (a.length:Int) (i:Int)=some true
 | [],i,m+1,hd,hm=>by
  have hq':a.length<=i:=by simpa using hd
  have hq:¬((i:Int)<(a.length:Int)):=by omega
  simp only[yo,G9,G8,hq,decide_false,Bool.false_eq_true,if_false]
 |r::x,i,m+1,hd,hm=>by
  obtain ⟨g1,g2,g3⟩:=aK hd;have hq:(i:Int)<(a.length:Int):=by omega
  have hrl:=hr r (List.mem_of_getElem? g1);simp at hm;simp only[yo,G9,hq,decide_true,if_true,aJ,g1,Option.bind_some,qN m r r (by omega) (by omega),l4,bne_self_eq_false,Bool.false_eq_true,if_false,aY g3 (by omega:a.length<4294967296)]
  exact MB n0 a hl hr x (i+1) m g2 (by omega)
 |_,_,0,_,hm=>by simp at hm
theorem MO (n0:Nat) (st:ai) (h:Sm st.ae):∀(x:cN) (i m:Nat),st.ae.drop i=x->x.length+5000<m->yJ (HY n0) m (st.ae.length:Int) (i:Int) st st=some true
 | [],i,m+1,hd,hm=>by
  have hq':st.ae.length<=i:=by simpa using hd
  have hq:¬((i:Int)<(st.ae.length:Int)):=by omega
  simp only[yJ,HZ,HY,hq,decide_false,Bool.false_eq_true,if_false]
 |rows::x,i,m+1,hd,hm=>by
  obtain ⟨g1,g2,g3⟩:=aK hd;have hq:(i:Int)<(st.ae.length:Int):=by omega
  obtain ⟨h1,h2⟩:=h;obtain ⟨h3,h4⟩:=h2 rows (List.mem_of_getElem? g1);simp at hm;have e:=MB m rows h3 h4 rows 0 m rfl (by omega)
  rw[show ((0:Nat):Int)=0 from rfl] at e;have e2:F68 m rows rows=some true:=by unfold F68 Tc;simp only[bne_self_eq_false,Bool.false_eq_true,if_false];exact e
  simp only[yJ,HZ,hq,decide_true,if_true,aJ,g1,Option.bind_some,e2,Bool.not_true,Bool.false_eq_true,if_false,aY g3 (by omega:st.ae.length<4294967296)]
  exact MO n0 st ⟨h1,h2⟩ x (i+1) m g2 (by omega)
 |_,_,0,_,hm=>by simp at hm
theorem aak (n:Nat) (st:ai) (h:Sm st.ae) (hn:10000<n):F27 n st st=some true:=by
 have e:=MO n st h st.ae 0 n rfl (by have:=h.1;omega)
 rw[show ((0:Nat):Int)=0 from rfl] at e;unfold F27 TG;simp only[bne_self_eq_false,Bool.false_eq_true,if_false];exact e
theorem StM.sm {md:Int} {s:ag} {ts:cN} (hs:SOK s) (h:StM md s ts) (ht:total ts<=512):Sm ts:=by
 have h8:=hs.len;have hl:=h.len;refine ⟨by omega,fun rows hr=>⟨by have:=jZ hr;omega,fun r hr'=> ?_⟩⟩
 obtain ⟨t,hl',rfl⟩:=List.mem_iff_getElem.1 hr;have hT:s.ae[t]? =some s.ae[t]:=List.getElem?_eq_getElem (by omega)
 have:=dT ((h.row t _ _ hT (List.getElem?_eq_getElem hl')).1 r hr');have:=(hs.tab (t:Int) _ (by rw[aJ];exact hT)).aB
 omega
theorem Ux:Sm []:=⟨by simp,fun rows h=>by simp at h⟩
theorem afQ {s:ag} (hs:SOK s) (st:ai) (ws:Wq3):Sm (ovR s 0 st ws).1.ae:=by
 unfold ovR;split
 ·rename_i h0;split
  ·rename_i h1;obtain ⟨_,w1,w2⟩:=vx h0;obtain ⟨_,h2,h3⟩:=vz h1;obtain ⟨a,b⟩:=Vg hs ws st.ae h2 h3 w2;exact a.sm hs b
  ·exact Ux
 ·exact Ux
theorem StG.size {md:Int} {s:ag} {ts:cN} (hs:SOK s) (h:StG md s ts):ts.length+total ts<=100:=by
 have h1:∀(x:cN),(∀rows∈x,rows.length<=8)->total x<=8*x.length:=by
  intro x;induction x with
  |nil=>intro _;simp[total]
  |cons y x ih=>intro h;have:=ih (fun r hr=>h r (by simp[hr]));have:=h y (by simp);simp only[total,List.length_cons];omega
 have h2:=h1 ts (fun rows hr=>by
  obtain ⟨i,hi,rfl⟩:=List.mem_iff_getElem.1 hr;have hi':i<s.ae.length:=by rw[<-h.len];exact hi
  exact (h.row i _ _ (List.getElem?_eq_getElem hi') (List.getElem?_eq_getElem hi)).1)
 have h3:=h.len;have h4:=hs.len;omega
theorem Yv (bq:Wq0) (hb:∀x∈bq,0<=x/\x<=255) (raw:Wq3) (hraw:∀w∈raw,wB w) (rs:ai) (hrs:rs.ae.length+total rs.ae<=2000000):F6 3000000 bq raw rs=some true:=by
 unfold F6 aas;obtain ⟨c,hc,c1⟩:=amp 3000000 bq 400 hb (by omega) (by omega)
 rw[hc,Option.bind_some];obtain ⟨s,hs,s1,s2⟩:=amo 3000000 (by omega) (by omega) c c1
 have hok:=s2.ok;rw[hs,Option.bind_some];obtain ⟨md,hmd,m1,_⟩:=dw 3000000 s.2 3 s1;rw[hmd,Option.bind_some];generalize w64 (1+md.1)=mode;obtain ⟨st,hst,st1,st2⟩:=amx mode 3000000 (by omega) s.1 hok md.2 m1
 rw[hst,Option.bind_some];have z6:st.1.ae.length+total st.1.ae<=2000000:=by have:=st2.size hok;omega
 have round:∀(n:Nat) (i:Nat) (c':ak) (x:ai) (l:Wq3),2000100<=n->n<4294967296->i<4->(∀w∈l,wB w)->x.ae.length+total x.ae<=2000000->
   Aq (sv (xe 3000000) n) n raw (i:Int) l rs c' s.1 st.1 x=sv (xe 3000000) n raw ((i+1:Nat):Int) rs c' s.1 st.1:=by
  intro n i c' x l h1 h2 h3 h4 h5;have e:=s2.chk;have he1:=ahS n s.1 s2.sz (by omega) h2
  have he2:=ahO n s.1 s2.sz (by omega) h2
  rw[e] at he1 he2;have hw:w64 ((i:Int)+1)=((i+1:Nat):Int):=by rw[bI (by omega) (by omega)];rfl
  unfold Aq;rw[ahX n s.1 0 he1 (fun _=>hok) l h4 x h5 h1,Option.bind_some,ahW n s.1 0 he2 (fun _=>hok) l h4 x h5 h1,Option.bind_some]
  simp only[bne_self_eq_false,Bool.false_eq_true,if_false,aak n _ (afQ hok x l) (by omega),Option.bind_some,Bool.not_true,hw]
 have writes:∀(n:Nat) (c':ak),5000<=n->aT c'->Ok (F10 n c' s.1 st.1 5) fun r=>aT r.2/\r.1.length<=100/\∀w∈r.1,Few w 100:=fun n c' hn hc'=>by
  have h:=amy mode n hn s.1 hok s2.pos c' hc' st.1 st2 5 (by omega)
  rw[show ((5:Nat):Int)=5 from rfl] at h;exact h.mono fun r ⟨r1,r2,r3⟩=>⟨r1,by omega,fun w hw=>Zx hok (vt r2 w hw)⟩
 have few:∀{l:Wq3} {N:Nat},N<=1000->(∀w∈l,Few w N)->∀w∈l,wB w:=fun hN h w hw=>(h w hw).wB hN
 have fin:∀(n:Nat) (c':ak),sv (xe 3000000) (n+1) raw ((3+1:Nat):Int) rs c' s.1 st.1=some true:=by
  intro n c';have hq:¬(((3+1:Nat):Int)<4):=by omega
  simp only[sv,Ta,hq,decide_false,Bool.false_eq_true,if_false,xe,F15,Option.bind_some]
 have step:∀(n i:Nat) (c':ak),2000100<=n->n<4294967296->i<4->aT c'->∃c2,aT c2/\sv (xe 3000000) (n+1) raw (i:Int) rs c' s.1 st.1=sv (xe 3000000) n raw ((i+1:Nat):Int) rs c2 s.1 st.1:=by
  intro n i c' h1 h2 h3 hc';obtain ⟨l,hl,l1,l2,l3⟩:=writes n c' (by omega) hc'
  have hq:(i:Int)<4:=by omega
  have g:∀(c':ak) (x:ai) (l:Wq3),(∀w∈l,wB w)->x.ae.length+total x.ae<=2000000->_:=fun c' x l=>round n i c' x l h1 h2 h3
  simp only[sv,Ta,hq,decide_true,if_true,hl,Option.bind_some];by_cases e1:i=1
  ·obtain ⟨sp,hsp,sp1,sp2⟩:=ahZ n (by omega) l.2 l1 l.1 l2 l3
   have e1':((i:Int)==1)=true:=by simp[e1]
   simp only[e1',if_true,hsp,Option.bind_some];exact ⟨_,sp1,g sp.2 st.1 sp.1 (few (by omega) sp2) z6⟩
  ·have e1':((i:Int)==1)=false:=by simp;omega
   simp only[e1',Bool.false_eq_true,if_false];by_cases e2:i=2
   ·have e2':((i:Int)==2)=true:=by simp[e2]
    simp only[e2',if_true];exact ⟨_,l1,g l.2 st.1 raw hraw z6⟩
   ·have e2':((i:Int)==2)=false:=by simp;omega
    simp only[e2',Bool.false_eq_true,if_false];by_cases e3:i=3
    ·have e3':((i:Int)==3)=true:=by simp[e3]
     simp only[e3',if_true];exact ⟨_,l1,g l.2 rs l.1 (few (by omega) l3) hrs⟩
    ·have e3':((i:Int)==3)=false:=by simp;omega
     simp only[e3',Bool.false_eq_true,if_false];exact ⟨_,l1,g l.2 st.1 l.1 (few (by omega) l3) z6⟩
 obtain ⟨c2,d2,e2⟩:=step 2999999 0 st.2 (by omega) (by omega) (by omega) st1
 obtain ⟨c3,d3,e3⟩:=step 2999998 1 c2 (by omega) (by omega) (by omega) d2
 obtain ⟨c4,d4,e4⟩:=step 2999997 2 c3 (by omega) (by omega) (by omega) d3
 obtain ⟨c5,d5,e5⟩:=step 2999996 3 c4 (by omega) (by omega) (by omega) d4
 exact ((e2.trans e3).trans (e4.trans e5)).trans (fin 2999995 c5)
theorem Zg {k:IntKind} {n:Int} (h:BQ (.int k n)):k.min<=n/\n<=k.max:=by
 simpa[BQ,Lit.wf] using h
theorem wC:∀{rows:List (List AV)},qB rows->∀r∈rows,kA r
 | [],_,_,h=>by simp at h
 |r::rs,h,x,hx=>by
  rcases List.mem_cons.1 hx with rfl|hx
  ·exact h.1
  ·exact wC h.2 x hx
theorem Sg {bq:Wq0} (h:BQ (.slx 5 1 (nu bq))):∀x∈bq,0<=x/\x<=255:=by
 intro x hx;have h1:=wC (show qB (nu bq) from h) (LU x) (List.mem_map.2 ⟨x,hx,rfl⟩);have h2:=Zg (show BQ (.int .u8 x) from h1.1);simpa[IntKind.min,IntKind.max,IntKind.signed,IntKind.bits] using h2
theorem uK {α:Type} {en:α->List AV} (he:∀x,1<=cT (en x)):∀xs:List α,xs.length<=gz (xs.map en)
 | []=>by simp
 |x::xs=>by
  have:=uK he xs;have:=he x;simp only[List.map_cons,gz,List.length_cons];omega
theorem L6 {α:Type} {en:α->List AV} {x:α}:∀{xs:List α},x∈xs->cT (en x)<=gz (xs.map en)
 |y::xs,h=>by
  simp only[List.map_cons,gz];rcases List.mem_cons.1 h with rfl|h
  ·omega
  ·have:=L6 (en:=en) h;omega
 | [],h=>by cases h
theorem Yq {raw:Wq3} (h:cT [.slx 55 5 (cy raw)]<=1048576):∀w∈raw,wB w:=by
 intro w hw;have h1:=L6 (en:=dR) hw;rw[<-tP] at h1;simp only[cT,kD] at h;simp only[dR,cT,kD] at h1;have h2:=uK (en:=En) (fun x=>by simp[En,cT,kD]) w.ah
 have h3:=uK (en:=iW) (fun x=>by simp[iW,cT,kD]) w.aq
 rw[<-vJ] at h2;rw[<-tO] at h3;exact ⟨by omega,by omega⟩
theorem AB:∀(ts:Wq9),ts.length+total ts<=gz (bN ts)
 | []=>by simp[total]
 |rs::ts=>by
  have h1:=AB ts;have h2:=uK (en:=BV) (fun x=>by simp[BV,cT,kD]) rs
  rw[<-tQ] at h2;rw[tN] at h1 ⊢;simp only[List.map_cons,gz,Gs,cT,kD,total,List.length_cons] at h1 ⊢;omega
theorem Qj {s:ai} (h:cT (dD s)<=1048576):s.ae.length+total s.ae<=2000000:=by
 have:=AB s.ae;simp only[dD,cT,kD] at h;omega
theorem afO (y0:Wq0) (y1:Wq3) (y2:ai) (h0:kA [.slx 5 1 (nu y0)]) (h1:kA [.slx 55 5 (cy y1)]) (h2:kA (dD y2)) (hb:cT [.slx 5 1 (nu y0)]+cT [.slx 55 5 (cy y1)]+cT (dD y2)<=1048576):∃n,F6 n y0 y1 y2=some true:=
 ⟨3000000,Yv y0 (Sg h0.1) y1 (Yq (by omega)) y2 (Qj (by omega))⟩
end Go.Proofs.YtmealahmjddpcaaGreatDoor
end
