/- What slices.Delete and slices.Insert do, at elements of several cells. -/
import Derived.Test.YtbnkhmoelnfjoaaGreatP7
import Derived.Test.YtbnkhmoelnfjoaaGreatP3
import Derived.WalkKit
import Derived.Deep.LoopGhost
import Derived.Deep.RegionLaw
import Derived.Lib.SliceRun
import Derived.Lib.Overlaps
import Derived.Lib.AppendZeros
import Derived.Lib.AppendZerosOnto
import Derived.Laws.Externs
import Derived.Laws.NewBlocks
import Derived.Deep.AppendSrc
import Derived.KernelRfl
set_option linter.all false
noncomputable section
namespace Go.Proofs.YtbnkhmoelnfjoaaGreat
open Go.Lib Go.RowKit Go.bQ
variable {P:Program} {rest:List Oper} {o:Oper} {a:Act} {Q:Exit->Act->World->Prop} {v':Value} {w' w:World} {K:Act->World->Prop} {E:Prop} {Y:Type} {k:Nat}
def Nv (w:World) (t e:TypeId) (z:Value) (sz:Nat) (ht:P.underlying t=some (.slice e)) (hv:∀w,(zeroValue e).run P w= .ok z w) (hz:z.cells.size=sz) (h1:∀v∈z.cells.toList,v.oneCell'=true) (b o n c:Nat) (hn:0<n) (hc:∀j,j<n*sz->(w.cell? ⟨b,o+j,none⟩).isSome=true) (hf:∀j,j<n*sz->w.frozen? ⟨b,o+j,none⟩=false):
  ∃zs:List Value,zs.length=n*sz/\(∀v∈zs,v.oneCell'=true)/\∀ty,(Builtin.clear_ #[t] ty #[.slice (some ⟨b,o,none⟩) n c]).run P w= .ok (.tuple #[]) (w.setCells b o zs):=by
 have hl:(Builtin.zeroCells z.cells n).toList.length=n*sz:=by simp[Builtin.zeroCells,hz]
 have wY:∀v∈(Builtin.zeroCells z.cells n).toList,v.oneCell'=true:=λv qJ=>by
  simp only[Builtin.zeroCells,Array.toList_map,dS] at qJ;obtain ⟨i,hi,rfl⟩:=qJ;have hi:i<n*z.cells.size:=by simpa using hi
  have hz0:0<z.cells.size:=by
   rcases OF z.cells.size with e|e
   ·rw[e] at hi;simp at hi
   ·exact e
  have bD:i % z.cells.size<z.cells.size:=Nat.mod_lt _ hz0;rw[getElem!_pos z.cells _ bD];exact h1 _ (Array.getElem_mem_toList bD)
 refine ⟨(Builtin.zeroCells z.cells n).toList,hl,wY,λty=> ?_⟩
 have ig:=run_storeCells_cells (P:=P) b o (Builtin.zeroCells z.cells n).toList 0 w (by rw[hl];simpa using hc) (by rw[hl];simpa using hf) wY
 simp only[nu] at ig;obtain ⟨m,rfl⟩:∃m,n=m+1:=⟨n-1,by omega⟩
 simp[Builtin.clear_,run_underlying ht,hv,ig]
def y9 (b:Nat) (vs:List Value) (o:Nat) (w:World) (h:∀j,j<vs.length->(w.cell? ⟨b,o+j,none⟩).isSome=true) (k:Nat) (hk:(w.cell? ⟨b,k,none⟩).isSome=true):((w.setCells b o vs).cell? ⟨b,k,none⟩).isSome=true:=by
 by_cases ju:o<=k/\k<o+vs.length
 ·have:=World.cell?_setCells_in b vs o w h (k-o) (by omega)
  rw[show o+(k-o)=k by omega] at this
  rw[this];rfl
 ·rw[World.cell?_setCells_out b vs o w ⟨b,k,none⟩ (λ_ _=>by show k<o\/o+vs.length<=k;omega)]
  exact hk
def ma {b:Nat} {e:TypeId}:∀(vs:List Value) (o:Nat) (w:World) (cur:Array Value),w.heap[b]? =some (.cells cur e (0,0))->o+vs.length<=cur.size->∃iZ,Wr w (w.setCells b o vs) b e iZ/\iZ.size=cur.size/\∀k,iZ[k]? =if o<=k/\k<o+vs.length then vs[k-o]? else cur[k]?
 | [],o,w,cur,hb,hl=>⟨cur,⟨hb,rfl,λ_ _=>rfl,rfl,rfl,rfl⟩,rfl,λk=>by rw[aA (λh=>absurd h.2 (by have:=h.1;show ¬k<o+0;omega))]⟩
 |v::vs,o,w,cur,hb,hl=>by
  have hl:o+(vs.length+1)<=cur.size:=hl;have bD:b<w.heap.size:=(oK.1 hb).1;have h1:(w.setCell ⟨b,o,none⟩ v).heap[b]? =some (.cells (cur.setIfInBounds o v) e (0,0)):=by
   simp[World.setCell,IN,hb]
  let ⟨iZ,a1,a2,a3⟩:=ma vs (o+1) (w.setCell ⟨b,o,none⟩ v) _ h1 (by simp;omega)
  refine ⟨iZ,⟨a1.heap,a1.size.trans (by simp[World.setCell]),λk hk=>(a1.Iq k hk).trans ?_,a1.os,a1.tape,a1.output⟩,by rw[a2];simp,λk=> ?_⟩
  ·simp[World.setCell,IN,zl hk]
  ·rw[a3,YH,mM];by_cases hk:o=k
   ·subst hk;rw[aA (by omega),ax rfl,ax (by omega),ax (by omega),oJ];rfl
   ·rw[aA hk];by_cases yd:o+1<=k/\k<o+1+vs.length
    ·rw[ax yd,ax (by omega),show k-o=(k-(o+1))+1 by omega,sg]
    ·rw[aA yd,aA (by omega)]
def aph (z:Value) (h:(z.cells.toList.all λv=>v.oneCell')=true):∀v∈z.cells.toList,v.oneCell'=true:=λv hv=>(dV.1 h) v hv
def i73:TypeInfo:=(Tryz.prog.info? 73).get (by kernel_rfl)
def JW:Tryz.prog.info? 73=some i73:=by kernel_rfl
def yP:i73.size=2:=by kernel_rfl
set_option maxHeartbeats 4000000 in
set_option maxRecDepth 1000000 in
def aDY (lU off n cap i j:Nat) (cs:List Value) (w:World) (JY:cs.length=n*2) (hc:∀t v,cs[t]? =some v->w.cell? ⟨lU,off+t,none⟩=some v) (hf:∀t,t<n*2->w.frozen? ⟨lU,off+t,none⟩=false) (h1:∀v∈cs,v.oneCell'=true) (fG:n<=cap) (DD:i<j) (hj:j<=n):
  Calls Tryz.prog 182 #[.slice (some ⟨lU,off,none⟩) n cap,.int .i64 i,.int .i64 j] w λe w'=>e= .returned (.slice (some ⟨lU,off,none⟩) (n-(j-i)) cap)/\∃zs:List Value,zs.length=(j-i)*2/\(∀v∈zs,v.oneCell'=true)/\w'=(w.drew.setCells lU (off+i*2) (cs.drop (j*2))).setCells lU (off+(i+(n-j))*2) zs:=by
 have heq:¬(i=j):=by omega
 have heq':((i:Int)==(j:Int))=false:=by simp;omega
 obtain ⟨news,tn⟩:∃news,news=cs.drop (j*2):=⟨_,rfl⟩;have hlen:news.length=(n-j)*2:=by rw[tn,gJ,JY,vg]
 obtain ⟨A,hA,tX⟩:∃A:Addr,(if cap=j then some (⟨lU,off,none⟩:Addr) else some ⟨lU,off+j*2,none⟩)=some A/\Hid (∀t u,news[t]? =some u->w.drew.cell? (A.add t)=some u):=by
  by_cases h:cap=j
  ·refine ⟨⟨lU,off,none⟩,by simp[h],λt u hu=> ?_⟩
   have h0:news.length=0:=by rw[hlen];omega
   rw[EI.1 h0] at hu;simp at hu
  ·refine ⟨⟨lU,off+j*2,none⟩,by simp[h],λt u hu=> ?_⟩
   rw[tn,fD] at hu;rw[Addr.add_lit,show off+j*2+t=off+(j*2+t) by omega]
   exact hc _ _ hu
 have s1:Hid (news.length=(n-j)*2):=hlen;have s2:Hid (∀u∈news,u.oneCell'=true):=λu hu=>h1 u (tF (by rw[<-tn];exact hu))
 have GP:∀t,t<n*2->(w.cell? ⟨lU,off+t,none⟩).isSome=true:=λt ht=>by
  rw[hc t cs[t] (by rw[dW])];rfl
 have s3:Hid (∀t,t<news.length->(w.drew.cell? ⟨lU,off+i*2+t,none⟩).isSome=true/\w.drew.frozen? ⟨lU,off+i*2+t,none⟩=false):=λt ht=>by
  rw[hlen] at ht;rw[fV];exact ⟨GP (i*2+t) (by omega),hf (i*2+t) (by omega)⟩
 obtain ⟨W1,tu⟩:∃W1,W1=w.drew.setCells lU (off+i*2) news:=⟨_,rfl⟩;have O3:∀t,t<n*2->(W1.cell? ⟨lU,off+t,none⟩).isSome=true:=λt ht=>by
  rw[tu];exact y9 lU _ _ _ (λk hk=>(s3 k hk).1) _ (GP t ht)
 have fz1:∀t,t<n*2->W1.frozen? ⟨lU,off+t,none⟩=false:=λt ht=>by
  rw[tu,World.frozen?_setCells];exact hf t ht
 let ⟨zs,zU,lP,gD⟩:=Nv (P:=Tryz.prog) W1 40 73 _ 2 Tryz.underlying40 Tryz.zeroValue73 (by kernel_rfl) (aph _ (by kernel_rfl)) lU (off+(i+(n-j))*2) (n-(i+(n-j))) (cap-(i+(n-j))) (by omega)
  (λt ht=>by rw[fV];exact O3 _ (by omega)) (λt ht=>by rw[fV];exact fz1 _ (by omega))
 have hic:i<=cap:=by omega
 have hjc:j<=cap:=by omega
 have hW:Hid (W1=w.drew.setCells lU (off+i*2) news):=tu;have hNW:Hid (news=cs.drop (j*2)):=tn;clear tu tn hlen GP O3 fz1 hc hf h1;go_enter Tryz.func182,Tryz.ntmps182;go_wp2_with fail;go_region_law (refine step_append_room rfl (.tmp 22) (.tmp 25) 40 rfl 73 i73 2 Tryz.underlying40 JW yP lU off i cap (by simp[Act.eval,Act.put]) A (n-j) (cap-j) news (by simp[Act.eval,Act.put,hA]) s1.out tX.out s2.out (by omega) s3.out ?_;rw[<-hW.out])
 go_wp2;go_ret;refine ⟨?_,zs,by rw[zU];congr 1;omega,lP,?_⟩
 ·rw[show n-(j-i)=i+(n-j) by omega];rfl
 ·rw[hW.out,hNW.out]
def avb:ano Tryz.prog 182 2:=by
 refine ⟨⟨_,Tryz.func182,by kernel_rfl,by rw[show Tryz.f182.name= "slices.Delete[[]partsync/api.Column,partsync/api.Column]" by kernel_rfl];decide⟩,λm w b off n c i j cur e hb hl h1 DD hj vu=>callsIn_wide.2 ?_⟩
 have Mu:∀t,w.cell? ⟨b,t,none⟩=cur[t]? :=λt=>ue hb
 have hlen:((cur.toList.drop off).take (n*2)).length=n*2:=by simp;omega
 have j5:∀t,t<n*2->((cur.toList.drop off).take (n*2))[t]? =cur[off+t]? :=λt ht=>by
  rw[eR,ax ht,fD,mL]
 refine (aDY b off n c i j ((cur.toList.drop off).take (n*2)) w hlen (λt v hv=> ?_) (λt ht=> ?_) (λv hv=> ?_) vu DD hj).mono ?_
 ·have ht:t<n*2:=by have:=(cg.1 hv).1;rwa[hlen] at this
  rw[Mu,<-j5 t ht];exact hv
 ·simp[World.frozen?,hb]
 ·let ⟨t,ht,e⟩:=OD hv;rw[hlen] at ht;refine h1 t ht v ?_;rw[<-j5 t ht,<-e];exact dW _
 ·rintro r w' ⟨rfl,zs,zU,lP,rfl⟩;refine ⟨rfl,?_⟩;have sv:(((cur.toList.drop off).take (n*2)).drop (j*2)).length=(n-j)*2:=by rw[gJ,hlen,vg]
  let ⟨c1,a1,a2,a3⟩:=ma (((cur.toList.drop off).take (n*2)).drop (j*2)) (off+i*2) w.drew cur hb (by rw[sv];omega)
  let ⟨c2,b1,b2,b3⟩:=ma zs (off+(i+(n-j))*2) _ c1 a1.heap (by rw[a2,zU];omega)
  refine ⟨c2,⟨b1.heap,b1.size.trans a1.size,λk hk=>(b1.Iq k hk).trans (a1.Iq k hk),b1.os.trans a1.os,b1.tape.trans a1.tape,b1.output.trans a1.output⟩,b2.trans a2,λk hk=> ?_,λt ht=> ?_,λt ht=> ?_⟩
  ·rw[b3,aA (by rw[zU];omega),a3,aA (by rw[sv];omega)]
  ·rw[b3,aA (by omega),a3,ax (by rw[sv];omega),show off+i*2+t-(off+i*2)=t by omega,fD,j5 _ (by omega),fV]
  ·refine ⟨zs[t]'(by rw[zU];omega),?_,lP _ (xc _)⟩
   rw[b3,ax (by rw[zU];omega),show off+i*2+(n*2-j*2)+t-(off+(i+(n-j))*2)=t by omega]
   exact dW _
def i44:TypeInfo:=(Tryz.prog.info? 44).get (by kernel_rfl)
def hi44:Tryz.prog.info? 44=some i44:=by kernel_rfl
def hs44:i44.size=5:=by kernel_rfl
set_option maxHeartbeats 4000000 in
set_option maxRecDepth 1000000 in
def aDX (lU off n cap i j:Nat) (cs:List Value) (w:World) (JY:cs.length=n*5) (hc:∀t v,cs[t]? =some v->w.cell? ⟨lU,off+t,none⟩=some v) (hf:∀t,t<n*5->w.frozen? ⟨lU,off+t,none⟩=false) (h1:∀v∈cs,v.oneCell'=true) (fG:n<=cap) (DD:i<j) (hj:j<=n):
  Calls Tryz.prog 185 #[.slice (some ⟨lU,off,none⟩) n cap,.int .i64 i,.int .i64 j] w λe w'=>e= .returned (.slice (some ⟨lU,off,none⟩) (n-(j-i)) cap)/\∃zs:List Value,zs.length=(j-i)*5/\(∀v∈zs,v.oneCell'=true)/\w'=(w.drew.setCells lU (off+i*5) (cs.drop (j*5))).setCells lU (off+(i+(n-j))*5) zs:=by
 have heq:¬(i=j):=by omega
 have heq':((i:Int)==(j:Int))=false:=by simp;omega
 obtain ⟨news,tn⟩:∃news,news=cs.drop (j*5):=⟨_,rfl⟩;have hlen:news.length=(n-j)*5:=by rw[tn,gJ,JY,vg]
 obtain ⟨A,hA,tX⟩:∃A:Addr,(if cap=j then some (⟨lU,off,none⟩:Addr) else some ⟨lU,off+j*5,none⟩)=some A/\Hid (∀t u,news[t]? =some u->w.drew.cell? (A.add t)=some u):=by
  by_cases h:cap=j
  ·refine ⟨⟨lU,off,none⟩,by simp[h],λt u hu=> ?_⟩
   have h0:news.length=0:=by rw[hlen];omega
   rw[EI.1 h0] at hu;simp at hu
  ·refine ⟨⟨lU,off+j*5,none⟩,by simp[h],λt u hu=> ?_⟩
   rw[tn,fD] at hu;rw[Addr.add_lit,show off+j*5+t=off+(j*5+t) by omega]
   exact hc _ _ hu
 have s1:Hid (news.length=(n-j)*5):=hlen;have s2:Hid (∀u∈news,u.oneCell'=true):=λu hu=>h1 u (tF (by rw[<-tn];exact hu))
 have GP:∀t,t<n*5->(w.cell? ⟨lU,off+t,none⟩).isSome=true:=λt ht=>by
  rw[hc t cs[t] (by rw[dW])];rfl
 have s3:Hid (∀t,t<news.length->(w.drew.cell? ⟨lU,off+i*5+t,none⟩).isSome=true/\w.drew.frozen? ⟨lU,off+i*5+t,none⟩=false):=λt ht=>by
  rw[hlen] at ht;rw[fV];exact ⟨GP (i*5+t) (by omega),hf (i*5+t) (by omega)⟩
 obtain ⟨W1,tu⟩:∃W1,W1=w.drew.setCells lU (off+i*5) news:=⟨_,rfl⟩;have O3:∀t,t<n*5->(W1.cell? ⟨lU,off+t,none⟩).isSome=true:=λt ht=>by
  rw[tu];exact y9 lU _ _ _ (λk hk=>(s3 k hk).1) _ (GP t ht)
 have fz1:∀t,t<n*5->W1.frozen? ⟨lU,off+t,none⟩=false:=λt ht=>by
  rw[tu,World.frozen?_setCells];exact hf t ht
 let ⟨zs,zU,lP,gD⟩:=Nv (P:=Tryz.prog) W1 23 44 _ 5 Tryz.underlying23 Tryz.zeroValue44 (by kernel_rfl) (aph _ (by kernel_rfl)) lU (off+(i+(n-j))*5) (n-(i+(n-j))) (cap-(i+(n-j))) (by omega)
  (λt ht=>by rw[fV];exact O3 _ (by omega)) (λt ht=>by rw[fV];exact fz1 _ (by omega))
 have hic:i<=cap:=by omega
 have hjc:j<=cap:=by omega
 have hW:Hid (W1=w.drew.setCells lU (off+i*5) news):=tu;have hNW:Hid (news=cs.drop (j*5)):=tn;clear tu tn hlen GP O3 fz1 hc hf h1;go_enter Tryz.func185,Tryz.ntmps185;go_wp2_with fail;go_region_law (refine step_append_room rfl (.tmp 22) (.tmp 25) 23 rfl 44 i44 5 Tryz.underlying23 hi44 hs44 lU off i cap (by simp[Act.eval,Act.put]) A (n-j) (cap-j) news (by simp[Act.eval,Act.put,hA]) s1.out tX.out s2.out (by omega) s3.out ?_;rw[<-hW.out])
 go_wp2;go_ret;refine ⟨?_,zs,by rw[zU];congr 1;omega,lP,?_⟩
 ·rw[show n-(j-i)=i+(n-j) by omega];rfl
 ·rw[hW.out,hNW.out]
def ava:ano Tryz.prog 185 5:=by
 refine ⟨⟨_,Tryz.func185,by kernel_rfl,by rw[show Tryz.f185.name= "slices.Delete[[]partsync/api.Table,partsync/api.Table]" by kernel_rfl];decide⟩,λm w b off n c i j cur e hb hl h1 DD hj vu=>callsIn_wide.2 ?_⟩
 have Mu:∀t,w.cell? ⟨b,t,none⟩=cur[t]? :=λt=>ue hb
 have hlen:((cur.toList.drop off).take (n*5)).length=n*5:=by simp;omega
 have j5:∀t,t<n*5->((cur.toList.drop off).take (n*5))[t]? =cur[off+t]? :=λt ht=>by
  rw[eR,ax ht,fD,mL]
 refine (aDX b off n c i j ((cur.toList.drop off).take (n*5)) w hlen (λt v hv=> ?_) (λt ht=> ?_) (λv hv=> ?_) vu DD hj).mono ?_
 ·have ht:t<n*5:=by have:=(cg.1 hv).1;rwa[hlen] at this
  rw[Mu,<-j5 t ht];exact hv
 ·simp[World.frozen?,hb]
 ·let ⟨t,ht,e⟩:=OD hv;rw[hlen] at ht;refine h1 t ht v ?_;rw[<-j5 t ht,<-e];exact dW _
 ·rintro r w' ⟨rfl,zs,zU,lP,rfl⟩;refine ⟨rfl,?_⟩;have sv:(((cur.toList.drop off).take (n*5)).drop (j*5)).length=(n-j)*5:=by rw[gJ,hlen,vg]
  let ⟨c1,a1,a2,a3⟩:=ma (((cur.toList.drop off).take (n*5)).drop (j*5)) (off+i*5) w.drew cur hb (by rw[sv];omega)
  let ⟨c2,b1,b2,b3⟩:=ma zs (off+(i+(n-j))*5) _ c1 a1.heap (by rw[a2,zU];omega)
  refine ⟨c2,⟨b1.heap,b1.size.trans a1.size,λk hk=>(b1.Iq k hk).trans (a1.Iq k hk),b1.os.trans a1.os,b1.tape.trans a1.tape,b1.output.trans a1.output⟩,b2.trans a2,λk hk=> ?_,λt ht=> ?_,λt ht=> ?_⟩
  ·rw[b3,aA (by rw[zU];omega),a3,aA (by rw[sv];omega)]
  ·rw[b3,aA (by omega),a3,ax (by rw[sv];omega),show off+i*5+t-(off+i*5)=t by omega,fD,j5 _ (by omega),fV]
  ·refine ⟨zs[t]'(by rw[zU];omega),?_,lP _ (xc _)⟩
   rw[b3,ax (by rw[zU];omega),show off+i*5+(n*5-j*5)+t-(off+(i+(n-j))*5)=t by omega]
   exact dW _
def Mr (w:World) (dT sT ty elem:TypeId) (i:TypeInfo) (sz:Nat) (b o dLen dCap:Nat) (a:Addr) (asI sCap k:Nat) (cs:List Value) (hu:P.underlying dT=some (.slice elem)) (hi:P.info? elem=some i) (hs:i.size=sz) (hk:Nat.min asI dLen=k) (hn:cs.length=k*sz) (tX:∀j v,cs[j]? =some v->w.cell? (a.add j)=some v) (hc:∀j,j<cs.length->(w.cell? ⟨b,o+j,none⟩).isSome=true) (hf:∀j,j<cs.length->w.frozen? ⟨b,o+j,none⟩=false) (h1:∀v∈cs,v.oneCell'=true):
  (Builtin.copy_ #[dT,sT] ty #[.slice (some ⟨b,o,none⟩) dLen dCap,.slice (some a) asI sCap]).run P w= .ok (goInt k) (w.setCells b o cs):=by
 subst hs;have hfc:=run_firstCells_some (P:=P) w i.size k a asI sCap cs hn tX;have ig:=run_storeCells_cells (P:=P) b o cs 0 w (by simpa using hc) (by simpa using hf) h1
 simp only[nu] at ig;simp[Builtin.copy_,run_underlying hu,Builtin.lenOf,sizeOf,typeInfo,hi,hk,hfc,ig]
def wpC (w:World) {ops:Array Oper} (hgd:o.guard=none) (d s:Operand) (t t':TypeId) (ho:o.op= .call {callee:=.builtin .copy,args:= #[d,s],argTypes:= #[t,t']}) (v u:Value) (hd:a.eval d=v) (hs:a.eval s=u) (hr:(Builtin.copy_ #[t,t'] o.type #[v,u]).run P w= .ok v' w') (h:wpList P ops Q rest (a.put o.dst v') w'):wpList P ops Q (o::rest) a w:=
 wpList_plain hgd λ_ hK=>by
  unfold Oper.wp execOp;simp only[ho,resolve,invoke,builtin,Sem.run_bind,Sem.run_pure,Result.andThen_ok,List.map_toArray,fM,xb,hd,hs,hr];exact hK _ _ h
def awg {ops:Array Oper} (hg:o.guard=none) (d x:Operand) (dT sT:TypeId) (dN:o.op=Op.call {callee:=Callee.builtin Builtin.copy,args:= #[d,x],argTypes:= #[dT,sT]}) (v u:Value) (hd:a.eval d=v) (hx:a.eval x=u) (hr:(Builtin.copy_ #[dT,sT] o.type #[v,u]).run P w= .ok v' w') (hK:K (a.put o.dst v') w'):
  if Region.wanted o (yielded ops a.tmps)=true then Oper.wp P o a w K Q else E:=by
 have hw:Region.wanted o (yielded ops a.tmps)=true:=by simp[Region.wanted,hg]
 rw[ax hw];unfold Oper.wp;simp[execOp,dN,resolve,invoke,builtin,hd,hx,hr,Result.andThen];exact hK
structure adA (w:World) (b off n c vb jq q vc:Nat) (cs vs:List Value):Prop where
 cl:cs.length=n*2
 vl:vs.length=q*2
 hc:∀j v,cs[j]? =some v->w.cell? ⟨b,off+j,none⟩=some v
 hv:∀j v,vs[j]? =some v->w.cell? ⟨vb,jq+j,none⟩=some v
 sp:∀j,j<c*2->(w.cell? ⟨b,off+j,none⟩).isSome=true
 fz:∀j,j<c*2->w.frozen? ⟨b,off+j,none⟩=false
 h1:∀v∈cs,v.oneCell'=true
 h2:∀v∈vs,v.oneCell'=true
set_option maxHeartbeats 4000000 in
set_option maxRecDepth 1000000 in
def abr (b off n c vb jq q vc:Nat) (cs vs:List Value) (w:World) (I:adA w b off n c vb jq q vc cs vs) (hq:0<q) (kE:n+q<=c):
  Calls Tryz.prog 184 #[.slice (some ⟨b,off,none⟩) n c,.int .i64 n,.slice (some ⟨vb,jq,none⟩) q vc] w λe w'=>e= .returned (.slice (some ⟨b,off,none⟩) (n+q) c)/\w'=w.setCells b (off+n*2) vs:=by
 have zU:¬((q:Int)=0):=by omega
 have ky:∀ty,(Builtin.append_ #[40,40] ty #[.slice (some ⟨b,off,none⟩) n c,.slice (some ⟨vb,jq,none⟩) q vc]).run Tryz.prog w= .ok (.slice (some ⟨b,off,none⟩) (n+q) c) (w.setCells b (off+n*2) vs):=λty=>by
  have h:=run_append_room_cells (P:=Tryz.prog) w 40 ty 73 i73 Tryz.underlying40 JW b off n c ⟨vb,jq,none⟩ q vc vs (by rw[I.vl,yP]) (λj u hj=>by rw[Addr.add_lit];exact I.hv j u hj) I.h2 kE
   (λj hj=>by rw[yP,fV];rw[I.vl] at hj;exact I.sp _ (by omega)) (λj hj=>by rw[yP,fV];rw[I.vl] at hj;exact I.fz _ (by omega))
  rw[yP] at h;exact h
 clear I;go_enter Tryz.func184,Tryz.ntmps184;go_wp2_with (at_builtin;refine Lib.wpList_append_run _ rfl _ _ _ _ rfl _ _ rfl rfl _ _ (ky _) ?_);go_ret;exact ⟨rfl,rfl⟩
def z73:i73.zero=some i73.zero.get! :=by kernel_rfl
def b73:i73.bytes=24:=by kernel_rfl
def asi:(i73.zero.get!).cells.size=2:=by kernel_rfl
set_option maxHeartbeats 4000000 in
set_option maxRecDepth 1000000 in
def abt (b off n c vb jq q vc:Nat) (cs vs:List Value) (w:World) (I:adA w b off n c vb jq q vc cs vs) (hq:0<q) (kE:c<n+q) (mv:n<=1000000) (hq6:q<=1000000) (vu:n<=c):
  Calls Tryz.prog 184 #[.slice (some ⟨b,off,none⟩) n c,.int .i64 n,.slice (some ⟨vb,jq,none⟩) q vc] w λe w'=>∃G,e= .returned (.slice (some ⟨w.heap.size,0,none⟩) (n+q) G)/\n+q<=G/\∃iZ:Array Value,G*2<=iZ.size/\(∀t,t<(n+q)*2->iZ[t]? =(cs++vs)[t]?)/\Nw w w' 73 iZ:=by
 have zU:¬((q:Int)=0):=by omega
 have tX:Src Tryz.prog i73.size 40 (.slice (some ⟨vb,jq,none⟩) q vc) q vs w:=by
  rw[yP];exact Src.ofSlice w Tryz.underlying40 ⟨vb,jq,none⟩ q vc vs I.vl (λj u hj=>by rw[Addr.add_lit];exact I.hv j u hj) I.h2
 have hold:(Builtin.firstCells i73.size n (.slice (some ⟨b,off,none⟩) n c)).run Tryz.prog w.drew= .ok cs.toArray w.drew:=by
  rw[yP];exact run_firstCells_some w.drew 2 n ⟨b,off,none⟩ n c cs I.cl (λj v hj=>by rw[Addr.add_lit];exact I.hc j v hj)
 obtain ⟨G,hG⟩:∃G,G=grownCap w (n+q) c 73:=⟨_,rfl⟩;obtain ⟨cur,iT⟩:∃cur:Array Value,cur=(cs++vs).toArray++Builtin.zeroCells (i73.zero.get!).cells (G-(n+q)):=⟨_,rfl⟩;have hGe:n+q<=G:=by rw[hG];exact grownCap_ge w _ _ _
 have mD:cur.size=G*2:=by
  rw[iT];simp[Builtin.zeroCells,asi,I.cl,I.vl];omega
 have j5:∀t,t<(n+q)*2->cur[t]? =(cs++vs)[t]? :=λt ht=>by
  rw[iT,IL (by simp[I.cl,I.vl];omega),IK]
 have ky:∀ty,(Builtin.append_ #[40,40] ty #[.slice (some ⟨b,off,none⟩) n c,.slice (some ⟨vb,jq,none⟩) q vc]).run Tryz.prog w= .ok (.slice (some ⟨w.heap.size,0,none⟩) (n+q) G) (w.drew.alloc (.cells cur 73)):=λty=>by
  have h:=run_append_grow_src w 40 40 ty 73 i73 _ Tryz.underlying40 JW z73 (some ⟨b,off,none⟩) n c cs hold _ q vs tX kE (by omega) (growslice_fits kE (by rw[b73];omega))
  rw[<-hG,<-iT] at h;exact h
 clear I hold tX hG iT;go_enter Tryz.func184,Tryz.ntmps184;go_wp2_with (at_builtin;refine Lib.wpList_append_run _ rfl _ _ _ _ rfl _ _ rfl rfl _ _ (ky _) ?_);all_goals (go_ret;exact ⟨G,rfl,hGe,cur,by omega,j5,⟨rfl,rfl,rfl,rfl⟩⟩)
set_option maxHeartbeats 4000000 in
set_option maxRecDepth 1000000 in
def aqJ (b off n c i vb jq q vc:Nat) (cs vs:List Value) (w:World) (I:adA w b off n c vb jq q vc cs vs) (hi:i<n) (hq:0<q) (kE:n+q<=c) (hvb:vb≠b) (mv:n<=1000000) (hq6:q<=1000000)
  (tA tB:TypeId) (kA kB:Nat) (hsa:w.shape? vb=some (tA,kA)) (hsb:w.shape? b=some (tB,kB)) (hkB:kB≠0) (hfa:w.frozen? ⟨vb,jq,none⟩=false) (hfe:w.frozen? ⟨vb,kA,none⟩=false):
  Calls Tryz.prog 184 #[.slice (some ⟨b,off,none⟩) n c,.int .i64 i,.slice (some ⟨vb,jq,none⟩) q vc] w λe w'=>e= .returned (.slice (some ⟨b,off,none⟩) (n+q) c)/\w'=(w.drew.setCells b (off+(i+q)*2) (cs.drop (i*2))).setCells b (off+i*2) vs:=by
 have zU:¬((q:Int)=0):=by omega
 have lP:¬((i:Int)=(n:Int)):=by omega
 have hz3:¬((c:Int)<(n:Int)+(q:Int)):=by omega
 have hov:∀lb cb,(callFunc 199 #[.slice (some ⟨vb,jq,none⟩) q vc,.slice (some ⟨b,off+(i+q)*2,none⟩) lb cb]).run Tryz.prog w= .ok (.value (.bool false)) w:=λlb cb=>by
  rw[run_callFunc_extern Tryz.func199 (by kernel_rfl) (by kernel_rfl) (by kernel_rfl) (e:=Extern.SlicesOverlaps.overlaps #[40,40] #[4]) (by kernel_rfl),
   Lib.run_overlaps_apart w 40 4 73 Tryz.underlying40 2 Tryz.sizeOf73 ⟨vb,jq,none⟩ ⟨b,off+(i+q)*2,none⟩ q vc lb cb hvb tA tB kA kB hsa hsb hkB hfa hfe]
  rfl
 have sv:(cs.drop (i*2)).length=(n-i)*2:=by rw[gJ,I.cl,vg]
 have hw1:IntKind.i64.wrap ((i:Int)+(q:Int))=(i:Int)+(q:Int):=by rw[IntKind.wrap_i64];omega
 have hw2:IntKind.i64.wrap ((n:Int)+(q:Int))=(n:Int)+(q:Int):=by rw[IntKind.wrap_i64];omega
 have iY:(0:Int)<=(i:Int)+(q:Int):=by omega
 have ju:i<=n:=by omega
 have htn:((i:Int)+(q:Int)).toNat=i+q:=by omega
 have nO:¬(c=i+q):=by omega
 have FF:(i:Int)<=(n:Int)+(q:Int):=by omega
 have hb4:¬(c=i):=by omega
 have hcp1:∀ty dc sc,(Builtin.copy_ #[40,40] ty #[.slice (some ⟨b,off+(i+q)*2,none⟩) (n+q-(i+q)) dc,.slice (some ⟨b,off+i*2,none⟩) (n+q-i) sc]).run Tryz.prog w.drew= .ok (goInt (n-i:Nat)) (w.drew.setCells b (off+(i+q)*2) (cs.drop (i*2))):=λty dc sc=>
  Mr w.drew 40 40 ty 73 i73 2 b (off+(i+q)*2) (n+q-(i+q)) dc ⟨b,off+i*2,none⟩ (n+q-i) sc (n-i) (cs.drop (i*2)) Tryz.underlying40 JW yP (by simp only[OC];split<;>omega) sv
   (λj v hj=>by rw[Addr.add_lit,fV];exact I.hc (i*2+j) v (by rwa[fD] at hj))
   (λj hj=>by rw[sv] at hj;rw[fV];exact I.sp _ (by omega)) (λj hj=>by rw[sv] at hj;rw[fV];exact I.fz _ (by omega)) (λv hv=>I.h1 v (tF hv))
 obtain ⟨W1,tu⟩:∃W1,W1=w.drew.setCells b (off+(i+q)*2) (cs.drop (i*2)):=⟨_,rfl⟩;have hsp1:∀k,k<c*2->(W1.cell? ⟨b,off+k,none⟩).isSome=true:=λk hk=>by
  rw[tu];exact y9 b _ _ _ (λj hj=>by rw[sv] at hj;rw[fV];exact I.sp _ (by omega)) _ (I.sp k hk)
 have hcp2:∀ty dc,(Builtin.copy_ #[40,40] ty #[.slice (some ⟨b,off+i*2,none⟩) (n+q-i) dc,.slice (some ⟨vb,jq,none⟩) q vc]).run Tryz.prog W1= .ok (goInt (q:Nat)) (W1.setCells b (off+i*2) vs):=λty dc=>
  Mr W1 40 40 ty 73 i73 2 b (off+i*2) (n+q-i) dc ⟨vb,jq,none⟩ q vc q vs Tryz.underlying40 JW yP (by simp only[OC];split<;>omega) I.vl
   (λj v hj=>by
    rw[Addr.add_lit,tu,World.cell?_setCells_out b _ _ _ _ (λh _=>absurd h hvb)]
    exact I.hv j v hj)
   (λj hj=>by rw[I.vl] at hj;rw[fV];exact hsp1 _ (by omega)) (λj hj=>by rw[I.vl] at hj;rw[tu,World.frozen?_setCells,fV];exact I.fz _ (by omega)) I.h2
 rw[<-tu] at hcp1;have hW:Hid (W1=w.drew.setCells b (off+(i+q)*2) (cs.drop (i*2))):=tu;clear I hsp1 sv tu;go_enter Tryz.func184,Tryz.ntmps184;go_wp2_with (simp only[hov]);go_region_law (refine awg rfl _ _ 40 40 rfl _ _ (by simp[Act.eval,Act.put]) (by simp[Act.eval,Act.put]) (hcp1 _ _ _) ?_)
 go_wp2_with (at_builtin;refine wpC _ rfl _ _ 40 40 rfl _ _ rfl rfl (hcp2 _ _) ?_);go_ret;exact ⟨rfl,by rw[hW.out]⟩
set_option maxHeartbeats 4000000 in
set_option maxRecDepth 1000000 in
def atO (b off n c i vb jq q vc:Nat) (cs vs:List Value) (w:World) (I:adA w b off n c vb jq q vc cs vs) (hi:i<n) (hq:0<q) (kE:c<n+q) (mv:n<=1000000) (hq6:q<=1000000) (vu:n<=c) (hbw:b<w.heap.size) (hvw:vb<w.heap.size):
  Calls Tryz.prog 184 #[.slice (some ⟨b,off,none⟩) n c,.int .i64 i,.slice (some ⟨vb,jq,none⟩) q vc] w λe w'=>∃G,e= .returned (.slice (some ⟨w.heap.size,0,none⟩) (n+q) G)/\n+q<=G/\∃xR:Array Value,xR.size=G*2/\(∀t,t<i*2->xR[t]? =cs[t]?)/\w'=((w.drew.alloc (.cells xR 73)).setCells w.heap.size (i*2) vs).drew.setCells w.heap.size ((i+q)*2) (cs.drop (i*2)):=by
 have zU:¬((q:Int)=0):=by omega
 have lP:¬((i:Int)=(n:Int)):=by omega
 have hz3:(c:Int)<(n:Int)+(q:Int):=by omega
 have xz:(n:Int)+(q:Int)-(i:Int)=((n+q-i:Nat):Int):=by omega
 have hik:i+(n+q-i)=n+q:=by omega
 have hold:(Builtin.firstCells i73.size i (.slice (some ⟨b,off,none⟩) i c)).run Tryz.prog w.drew= .ok (cs.take (i*2)).toArray w.drew:=by
  rw[yP];exact run_firstCells_some w.drew 2 i ⟨b,off,none⟩ i c (cs.take (i*2)) (by rw[dx,I.cl];omega) (λj v hj=>by
   rw[Addr.add_lit];rw[eR] at hj;split at hj
   ·exact I.hc j v hj
   ·cases hj)
 obtain ⟨G,hG⟩:∃G,G=grownCap w (n+q) c 73:=⟨_,rfl⟩;obtain ⟨xR,alO⟩:∃xR:Array Value,xR=(cs.take (i*2)).toArray++Builtin.zeroCells (i73.zero.get!).cells (n+q-i)++Builtin.zeroCells (i73.zero.get!).cells (G-(n+q)):=⟨_,rfl⟩;have hrz:∀ty,(Builtin.append_ #[40,3] ty #[.slice (some ⟨b,off,none⟩) i c,.int .i64 ((n:Int)+(q:Int)-(i:Int))]).run Tryz.prog w= .ok (.slice (some ⟨w.heap.size,0,none⟩) (n+q) G) (w.drew.alloc (.cells xR 73)):=λty=>by
  have h:=Lib.run_append_grow_zeros w 40 3 ty 73 i73 _ .i64 .i64 Tryz.underlying40 Tryz.underlying3 JW z73 (some ⟨b,off,none⟩) i c (cs.take (i*2)) hold (n+q-i) (by omega) (by rw[yP];omega) (by omega) (by omega) (by rw[b73];omega) (by rw[b73,hik];exact growslice_fits kE (by omega))
  rw[hik,<-hG,<-alO] at h;rw[xz];exact h
 have hGn:n+q<=G:=by rw[hG];exact grownCap_ge w _ _ _
 have hRl:xR.size=G*2:=by
  rw[alO];simp[Builtin.zeroCells,asi,I.cl];omega
 have hRg:∀t,t<i*2->xR[t]? =cs[t]? :=λt ht=>by
  rw[alO,IL (by simp[Builtin.zeroCells,asi,I.cl];omega),IL (by simp[I.cl];omega),IK,eR,ax ht]
 obtain ⟨W1,tu⟩:∃W1,W1=w.drew.alloc (.cells xR 73):=⟨_,rfl⟩;have hN:∀j,j<G*2->(W1.cell? ⟨w.heap.size,j,none⟩).isSome=true:=λj hj=>by
  rw[tu,World.cell?_alloc_at (w:=w.drew) xR _ w.heap.size j rfl,pW (by omega)];rfl
 have hNf:∀j,W1.frozen? ⟨w.heap.size,j,none⟩=false:=λj=>by rw[tu];exact World.frozen?_alloc_at (w:=w.drew) xR _ w.heap.size j rfl
 have hOb:∀j v,w.cell? ⟨b,j,none⟩=some v->W1.cell? ⟨b,j,none⟩=some v:=λj v h=>by rw[tu,World.cell?_alloc_past (w:=w.drew) _ b j hbw];exact h
 have hOv:∀j v,w.cell? ⟨vb,j,none⟩=some v->W1.cell? ⟨vb,j,none⟩=some v:=λj v h=>by rw[tu,World.cell?_alloc_past (w:=w.drew) _ vb j hvw];exact h
 have hG63:G<=9223372036854775807:=by
  have:=grownCap_le_maxLen w (n+q) c 73 (by unfold maxLen;omega)
  rw[<-hG] at this;unfold maxLen at this;omega
 have hcpA:∀(W:World),(∀x,W.cell? x=W1.cell? x)->(∀x,W.frozen? x=W1.frozen? x)->∀ty dc,(Builtin.copy_ #[40,40] ty #[.slice (some ⟨w.heap.size,i*2,none⟩) (n+q-i) dc,.slice (some ⟨vb,jq,none⟩) q vc]).run Tryz.prog W= .ok (goInt (q:Nat)) (W.setCells w.heap.size (i*2) vs):=λW hWc hWf ty dc=>
  Mr W 40 40 ty 73 i73 2 w.heap.size (i*2) (n+q-i) dc ⟨vb,jq,none⟩ q vc q vs Tryz.underlying40 JW yP (by simp only[OC];split<;>omega) I.vl
   (λj v hj=>by rw[Addr.add_lit,hWc];exact hOv _ v (I.hv j v hj))
   (λj hj=>by rw[hWc];rw[I.vl] at hj;exact hN _ (by omega)) (λj hj=>by rw[hWf];exact hNf _) I.h2
 have hbN:b≠w.heap.size:=by omega
 have sv:(cs.drop (i*2)).length=(n-i)*2:=by rw[gJ,I.cl,vg]
 have hcpB:∀(W:World),(∀x,W.cell? x=(W1.setCells w.heap.size (i*2) vs).cell? x)->(∀x,W.frozen? x=(W1.setCells w.heap.size (i*2) vs).frozen? x)->∀ty dc sc,(Builtin.copy_ #[40,40] ty #[.slice (some ⟨w.heap.size,(i+q)*2,none⟩) (n+q-(i+q)) dc,.slice (some ⟨b,off+i*2,none⟩) (n-i) sc]).run Tryz.prog W= .ok (goInt (n-i:Nat)) (W.setCells w.heap.size ((i+q)*2) (cs.drop (i*2))):=λW hWc hWf ty dc sc=>
  Mr W 40 40 ty 73 i73 2 w.heap.size ((i+q)*2) (n+q-(i+q)) dc ⟨b,off+i*2,none⟩ (n-i) sc (n-i) (cs.drop (i*2)) Tryz.underlying40 JW yP (by simp only[OC];split<;>omega) sv
   (λj v hj=>by
    rw[Addr.add_lit,hWc,World.cell?_setCells_out _ _ _ _ _ (λh _=>absurd h hbN),fV]
    exact hOb _ v (I.hc (i*2+j) v (by rwa[fD] at hj)))
   (λj hj=>by rw[sv] at hj;rw[hWc];exact y9 _ _ _ _ (λt ht=>by rw[I.vl] at ht;exact hN _ (by omega)) _ (hN _ (by omega)))
   (λj hj=>by rw[hWf,World.frozen?_setCells];exact hNf _) (λv hv=>I.h1 v (tF hv))
 have hGi:¬(G=i):=by omega
 have hGim:¬(G=i+q):=by omega
 have yf:¬(c=i):=by omega
 have hw1:IntKind.i64.wrap ((i:Int)+(q:Int))=(i:Int)+(q:Int):=by rw[IntKind.wrap_i64];omega
 have iY:(0:Int)<=(i:Int)+(q:Int):=by omega
 have ju:i<=n:=by omega
 have htn:((i:Int)+(q:Int)).toNat=i+q:=by omega
 have FF:(i:Int)<=(n:Int):=by omega
 rw[<-tu] at hrz;have hW:Hid (W1=w.drew.alloc (.cells xR 73)):=tu;have hA:=λty dc=>hcpA W1 (λ_=>rfl) (λ_=>rfl) ty dc
 obtain ⟨W2,hW2⟩:∃W2,W2=W1.setCells w.heap.size (i*2) vs:=⟨_,rfl⟩;rw[<-hW2] at hA;have hB:=λty dc sc=>hcpB W2.drew (λ_=>by rw[hW2];rfl) (λ_=>by rw[hW2];rfl) ty dc sc
 have hW2':Hid (W2=W1.setCells w.heap.size (i*2) vs):=hW2;clear xz hik hold alO hG I hN hNf hOb hOv hcpA hcpB sv tu hW2 hbw hvw;go_enter Tryz.func184,Tryz.ntmps184;go_wp2_with (first
  |(at_builtin;refine Lib.wpList_append_run _ rfl _ _ _ _ rfl _ _ rfl rfl _ _ (hrz _) ?_)
  |(at_builtin;refine wpC _ rfl _ _ 40 40 rfl _ _ rfl rfl (hA _ _) ?_))
 go_region_law (refine awg rfl _ _ 40 40 rfl (.slice (some ⟨w.heap.size,(i+q)*2,none⟩) (n+q-(i+q)) (G-(i+q))) (.slice (some ⟨b,off+i*2,none⟩) (n-i) (c-i)) (by simp[Act.eval,Act.put]) (by simp[Act.eval,Act.put]) (hB 3 (G-(i+q)) (c-i)) ?_)
 go_wp2;go_ret;exact ⟨G,rfl,hGn,xR,hRl,hRg,by rw[hW2'.out,hW.out]⟩
def aBe {xs ys:List Y} (hk:k<=xs.length) (t:Nat):(uV xs k ys)[t]? =if t<k then xs[t]? else if t<k+ys.length then ys[t-k]? else xs[t-ys.length]? :=by
 show (xs.take k++(ys++xs.drop k))[t]? =_;rw[oI,dx,eg hk];by_cases q1:t<k
 ·rw[ax q1,ax q1,eR,ax q1]
 ·rw[aA q1,aA q1,oI];by_cases q2:t<k+ys.length
  ·rw[ax (by omega),ax q2]
  ·rw[aA (by omega),aA q2,fD]
   congr 1;omega
def atP:ayk Tryz.prog 184 73 2:=by
 refine ⟨⟨_,Tryz.func184,by kernel_rfl,by rw[show Tryz.f184.name= "slices.Insert[[]partsync/api.Column,partsync/api.Column]" by kernel_rfl];decide⟩,λm w b off n c i vb jq q vc cur HK ev hb hvb bY JY rp h1 h2 vu mv hq hq6 ju=>callsIn_wide.2 ?_⟩
 have Mu:∀t,w.cell? ⟨b,t,none⟩=cur[t]? :=λt=>ue hb
 have aJi:∀t,w.cell? ⟨vb,t,none⟩=HK[t]? :=λt=>ue hvb
 obtain ⟨cs,aut⟩:∃cs,cs=(cur.toList.drop off).take (n*2):=⟨_,rfl⟩;obtain ⟨vs,aud⟩:∃vs,vs=(HK.toList.drop jq).take (q*2):=⟨_,rfl⟩;have lc:cs.length=n*2:=by rw[aut];simp;omega
 have lv:vs.length=q*2:=by rw[aud];simp;omega
 have gc:∀t,t<n*2->cs[t]? =cur[off+t]? :=λt ht=>by rw[aut,eR,ax ht,fD,mL]
 have gv:∀t,t<q*2->vs[t]? =HK[jq+t]? :=λt ht=>by rw[aud,eR,ax ht,fD,mL]
 have I:adA w b off n c vb jq q vc cs vs:=by
  refine ⟨lc,lv,λt v hv=> ?_,λt v hv=> ?_,λt ht=> ?_,λt ht=> ?_,λv hv=> ?_,λv hv=> ?_⟩
  ·have ht:t<n*2:=by have:=(cg.1 hv).1;rwa[lc] at this
   rw[Mu,<-gc t ht];exact hv
  ·have ht:t<q*2:=by have:=(cg.1 hv).1;rwa[lv] at this
   rw[aJi,<-gv t ht];exact hv
  ·rw[Mu,pW (by omega)];rfl
  ·simp[World.frozen?,hb]
  ·let ⟨t,ht,e⟩:=OD hv;rw[lc] at ht;refine h1 t ht v ?_;rw[<-gc t ht,<-e];exact dW _
  ·let ⟨t,ht,e⟩:=OD hv;rw[lv] at ht;refine h2 t ht v ?_;rw[<-gv t ht,<-e];exact dW _
 rw[<-aut,<-aud];have G:∀t,(uV cs (i*2) vs)[t]? =if t<i*2 then cs[t]? else if t<i*2+q*2 then vs[t-i*2]? else cs[t-q*2]? :=λt=>by
  rw[aBe (by rw[lc];omega),lv]
 rcases Nat.eq_or_lt_of_le ju with rfl|bD
 ·by_cases kE:i+q<=c
  ·refine (abr b off i c vb jq q vc cs vs w I hq kE).mono ?_;rintro r w' ⟨rfl,rfl⟩;let ⟨c1,a1,a2,a3⟩:=ma vs (off+i*2) w cur hb (by rw[lv];omega)
   refine ⟨b,off,c,c1,rfl,kE,by rw[a2];exact JY,λt ht=> ?_,.inl ⟨rfl,rfl,a1⟩⟩
   rw[G,a3,lv];by_cases q1:t<i*2
   ·rw[aA (by omega),ax q1,gc t q1]
   ·rw[ax (by omega),aA q1,ax (by omega),show off+t-(off+i*2)=t-i*2 by omega]
  ·refine (abt b off i c vb jq q vc cs vs w I hq (by omega) mv hq6 vu).mono ?_
   rintro r w' ⟨G',rfl,hG,c1,mD,j5,hw⟩;refine ⟨w.heap.size,0,G',c1,rfl,hG,by omega,λt ht=> ?_,.inr ⟨rfl,rfl,hw⟩⟩
   rw[G,cE,j5 t ht,oI,lc];by_cases q1:t<i*2
   ·rw[ax q1,ax q1]
   ·rw[aA q1,aA q1,ax (by omega)]
 ·have hld:(cs.drop (i*2)).length=(n-i)*2:=by rw[gJ,lc,vg]
  by_cases kE:n+q<=c
  ·refine (aqJ b off n c i vb jq q vc cs vs w I bD hq kE bY mv hq6 ev 73 HK.size cur.size (by simp[World.shape?,hvb]) (by simp[World.shape?,hb]) (by omega) (by simp[World.frozen?,hvb]) (by simp[World.frozen?,hvb])).mono ?_
   rintro r w' ⟨rfl,rfl⟩;let ⟨c1,a1,a2,a3⟩:=ma (cs.drop (i*2)) (off+(i+q)*2) w.drew cur hb (by rw[hld];omega)
   let ⟨c2,b1,b2,b3⟩:=ma vs (off+i*2) _ c1 a1.heap (by rw[lv,a2];omega)
   refine ⟨b,off,c,c2,rfl,kE,by rw[b2,a2];exact JY,λt ht=> ?_,.inl ⟨rfl,rfl,⟨b1.heap,b1.size.trans a1.size,λk hk=>(b1.Iq k hk).trans (a1.Iq k hk),b1.os.trans a1.os,b1.tape.trans a1.tape,b1.output.trans a1.output⟩⟩⟩
   rw[G,b3,lv];by_cases q1:t<i*2
   ·rw[aA (by omega),ax q1,a3,aA (by omega),gc t (by omega)]
   ·rw[aA q1];by_cases q2:t<i*2+q*2
    ·rw[ax (by omega),ax q2,show off+t-(off+i*2)=t-i*2 by omega]
    ·rw[aA (by omega),aA q2,a3,ax (by rw[hld];omega),fD]
     congr 1;omega
  ·have hbw:=(oK.1 hb).1;have hvw:=(oK.1 hvb).1;refine (atO b off n c i vb jq q vc cs vs w I bD hq (by omega) mv hq6 vu hbw hvw).mono ?_
   rintro r w' ⟨G',rfl,hG,xR,mD,j5,rfl⟩;have hW:(w.drew.alloc (.cells xR 73)).heap[w.heap.size]? =some (.cells xR 73 (0,0)):=heap_alloc_new w.drew _;let ⟨c1,a1,a2,a3⟩:=ma vs (i*2) _ xR hW (by rw[lv];omega)
   let ⟨c2,b1,b2,b3⟩:=ma (cs.drop (i*2)) ((i+q)*2) (World.drew _) c1 a1.heap (by rw[hld,a2];omega)
   refine ⟨w.heap.size,0,G',c2,rfl,hG,by omega,λt ht=> ?_,.inr ⟨rfl,rfl,?_,b1.os.trans a1.os,b1.tape.trans a1.tape,b1.output.trans a1.output⟩⟩
   ·rw[G,cE,b3,hld];by_cases q1:t<i*2
    ·rw[aA (by omega),ax q1,a3,aA (by omega),j5 t q1]
    ·rw[aA q1];by_cases q2:t<i*2+q*2
     ·rw[aA (by omega),ax q2,a3,ax (by rw[lv];omega)]
     ·rw[ax (by omega),aA q2,fD]
      congr 1;omega
   ·have hs:((w.drew.alloc (.cells xR 73))).heap.size=w.heap.size+1:=by simp
    apply Array.ext_getElem?;intro k;rw[Array.getElem?_push];by_cases hk:k=w.heap.size
    ·subst hk;rw[ax rfl];exact b1.heap
    ·rw[aA hk,b1.Iq k hk];refine (a1.Iq k hk).trans ?_;by_cases yd:k<w.heap.size
     ·exact heap_alloc_old w.drew _ yd
     ·rw[YG (by rw[hs];omega),YG (by omega)]
end Go.Proofs.YtbnkhmoelnfjoaaGreat
end
