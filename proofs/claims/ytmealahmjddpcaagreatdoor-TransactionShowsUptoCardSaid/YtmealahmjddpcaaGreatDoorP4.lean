/- Texts that belong together. The first: Soundness: code. -/
import Derived.Test.YtmealahmjddpcaaGreatDoorP3
import Derived.RangeFuncRecord
import Derived.RangeFuncLeaves
import Derived.RecoverIn
import Derived.ProofKit
import Derived.OpenShut
set_option linter.all false
noncomputable section
namespace Go.Sim
open Go.RowKit
section
section
variable {F:Fence} {n:Nat} {P:Program} {Q:Exit->Act->World->Prop} {a:Act} {w:World} {c:Code}
theorem FX (h:c.wpIn F n P (Exit.then (Bh F n P c Q) Q) a w):Bh F n P c Q a w:=by
 intro b k cs hro hb hr;obtain ⟨e,a₁,w₁,hq,mb⟩:=h b (.inLoop c::k) cs hro hb hr;cases e with
 |normal=>
  obtain ⟨e₂,a₂,w₂,aiL,aeZ⟩:=hq b k cs hro hb hr;exact ⟨e₂,a₂,w₂,aiL,.of_steps (StepsIn.trans mb (.one (fenced_calm hb hr rfl) stepR_inLoop)) aeZ⟩
 |exit id=>exact ⟨_,a₁,w₁,hq,.pass (x:=.inLoop c) rfl (fun _ _=>.inl (by simp)) mb⟩
 |goto l=>exact ⟨_,a₁,w₁,hq,.pass (x:=.inLoop c) rfl (fun _ _=>.inl (by simp)) mb⟩
 |ret=>exact ⟨_,a₁,w₁,hq,.pass (x:=.inLoop c) rfl (fun _ _=>.inl (by simp)) mb⟩
 |panic ch=>exact ⟨_,a₁,w₁,hq,.pass (x:=.inLoop c) rfl (fun _ _=>.inl (by simp)) mb⟩
 |outgrown=>exact ⟨_,a₁,w₁,hq,.pass (x:=.inLoop c) rfl (fun _ _=>.inl (by simp)) mb⟩
theorem CW (h:Bh F n P c Q a w):(Code.loop c).wpIn F n P Q a w:=fun b k cs hro hb hr=>
 let ⟨e,a',w',hq,mb⟩:=h b k cs hro hb hr
 ⟨e,a',w',hq,.of_steps (.one (fenced_calm hb hr rfl) stepR_loop) mb⟩
theorem lr (h:wpX F n P c Q a w):c.wpIn F n P Q a w:=by
 cases c<;>first|exact h|exact CW h
end
variable {E:Env} {g:Gh} {f:Hf} {w:World}
theorem okL {a b:Code} (h:codeOk (.seq a b)=true):codeOk a=true:=by
 have h:(codeOk a&&codeOk b)=true:=h;rw[Bool.and_eq_true] at h;exact h.1
theorem okR {a b:Code} (h:codeOk (.seq a b)=true):codeOk b=true:=by
 have h:(codeOk a&&codeOk b)=true:=h;rw[Bool.and_eq_true] at h;exact h.2
theorem DT.aiw {nt W:Nat} {ops:Array Oper} {base i:Nat} {prev:List St} {l:List Oper} {T:Tf} {F:Hf} {nx:Nat} {T':Tf} {F':Hf} {nx':Nat} {out:List St} (h:DT E nt W ops base i prev l T F nx T' F' nx' out):nx<=nx':=by
 induction h with
 |nil=>exact Nat.le_refl _
 |cons c h ih=>exact Nat.le_trans c.oO ih
theorem dk.seq {nt:Nat} {a b:Code} {tm:Tr SV} {mk:List Dm} {h:Hs} {l1 r:List Oc} (k1:dk E nt a tm mk h l1)
  (kin:∀o∈l1,(o.e= .normal/\∃r',dk E nt b o.tm o.dm o.h r'/\∀x∈r',x∈r)\/(o.e≠ .normal/\o∈r)) (Zf:∀x∈r,∃o∈l1,(∃r',dk E nt b o.tm o.dm o.h r'/\x∈r')\/x=o):dk E nt (.seq a b) tm mk h r:=by
 obtain ⟨n1,f1,s1⟩:=k1;have hne:r≠ []:=by
  obtain ⟨o,ho⟩:=List.exists_mem_of_ne_nil _ n1;rcases kin o ho with ⟨_,r',⟨n2,_⟩,h2⟩|⟨_,h2⟩
  ·obtain ⟨x,hx⟩:=List.exists_mem_of_ne_nil _ n2;exact List.ne_nil_of_mem (h2 x hx)
  ·exact List.ne_nil_of_mem h2
 refine ⟨hne,fun x hx=> ?_,fun ro m g ac w Q hok hro hE hfr hr hm hnx hk=>wpIn_seq (lr ?_)⟩
 ·obtain ⟨o,ho,⟨r',⟨_,f2,_⟩,hx⟩|rfl⟩:=Zf x hx
  ·exact ⟨(f1 o ho).1.trans (f2 x hx).1,gU.trans (f1 o ho).1.nx (f1 o ho).2 (f2 x hx).2⟩
  ·exact f1 x ho
 have hlen:∀o∈l1,ro=none\/o.dm.length=mk.length:=by
  intro o ho;rcases hro with hro|hro
  ·exact .inl hro
  ·refine .inr ?_;have h1:=(f1 o ho).2.1;rcases kin o ho with ⟨_,r',⟨n2,f2,_⟩,h2⟩|⟨_,h2⟩
   ·obtain ⟨x,hx⟩:=List.exists_mem_of_ne_nil _ n2;have h3:=(f2 x hx).2.1;have h4:=hro x (h2 x hx);omega
   ·exact hro o h2
 refine s1 ro m g ac w _ (okL hok) (by
  by_cases h:ro=none
  ·exact .inl h
  ·exact .inr fun o ho=>(hlen o ho).resolve_left h) hE hfr hr hm hnx (fun o ho g1 a1 w1 x q0 q1 q2 q3 q4 q5 q6=> ?_)
 rcases kin o ho with ⟨he,r',⟨n2,f2,s2⟩,h2⟩|⟨he,h2⟩
 ·rw[he] at q0;cases q0;refine lr (s2 ro m g1 a1 w1 Q (okR hok) (hro.imp_right fun hro z hz=> ?_) (hE.mono q3.le) q1 q2 q4 q5 (fun z hz g2 a2 w2 x r0 r1 r2 r3 r4 r5 r6=>hk z (h2 z hz) g2 a2 w2 x r0 r1 r2 (q3.trans r3) r4 r5 (fun y hy=>by rw[r6 y (Nat.lt_of_lt_of_le hy (f1 o ho).1.nx),q6 y hy])))
  have h1:=(f1 o ho).2.1;have h3:=(f2 z hz).2.1;have h4:=hro z (h2 z hz);omega
 ·have:=hk o h2 g1 a1 w1 x q0 q1 q2 q3 q4 q5 q6;generalize o.e=e at q0 he;cases q0 with
  |normal=>exact absurd rfl he
  |exit id=>exact this
  |ret=>exact this
  |pan hv=>exact this
theorem dk.loop {nt:Nat} {c:Code} {tm:Tr SV} {mk:List Dm} {h:Hs} {l1 r:List Oc} (k1:dk E nt c tm mk h l1)
  (kin:∀o∈l1,(o.e= .normal/\∃r',dk E nt (.loop c) o.tm o.dm o.h r'/\∀x∈r',x∈r)\/(o.e≠ .normal/\o∈r)) (Zf:∀x∈r,∃o∈l1,(∃r',dk E nt (.loop c) o.tm o.dm o.h r'/\x∈r')\/x=o):dk E nt (.loop c) tm mk h r:=by
 obtain ⟨n1,f1,s1⟩:=k1;have hne:r≠ []:=by
  obtain ⟨o,ho⟩:=List.exists_mem_of_ne_nil _ n1;rcases kin o ho with ⟨_,r',⟨n2,_⟩,h2⟩|⟨_,h2⟩
  ·obtain ⟨x,hx⟩:=List.exists_mem_of_ne_nil _ n2;exact List.ne_nil_of_mem (h2 x hx)
  ·exact List.ne_nil_of_mem h2
 refine ⟨hne,fun x hx=> ?_,fun ro m g ac w Q hok hro hE hfr hr hm hnx hk=>FX (lr ?_)⟩
 ·obtain ⟨o,ho,⟨r',⟨_,f2,_⟩,hx⟩|rfl⟩:=Zf x hx
  ·exact ⟨(f1 o ho).1.trans (f2 x hx).1,gU.trans (f1 o ho).1.nx (f1 o ho).2 (f2 x hx).2⟩
  ·exact f1 x ho
 have hlen:∀o∈l1,ro=none\/o.dm.length=mk.length:=by
  intro o ho;rcases hro with hro|hro
  ·exact .inl hro
  ·refine .inr ?_;have h1:=(f1 o ho).2.1;rcases kin o ho with ⟨_,r',⟨n2,f2,_⟩,h2⟩|⟨_,h2⟩
   ·obtain ⟨x,hx⟩:=List.exists_mem_of_ne_nil _ n2;have h3:=(f2 x hx).2.1;have h4:=hro x (h2 x hx);omega
   ·exact hro o h2
 refine s1 ro m g ac w _ hok (by
  by_cases h:ro=none
  ·exact .inl h
  ·exact .inr fun o ho=>(hlen o ho).resolve_left h) hE hfr hr hm hnx (fun o ho g1 a1 w1 x q0 q1 q2 q3 q4 q5 q6=> ?_)
 rcases kin o ho with ⟨he,r',⟨n2,f2,s2⟩,h2⟩|⟨he,h2⟩
 ·rw[he] at q0;cases q0;refine s2 ro m g1 a1 w1 Q hok (hro.imp_right fun hro z hz=> ?_) (hE.mono q3.le) q1 q2 q4 q5 (fun z hz g2 a2 w2 x r0 r1 r2 r3 r4 r5 r6=>hk z (h2 z hz) g2 a2 w2 x r0 r1 r2 (q3.trans r3) r4 r5 (fun y hy=>by rw[r6 y (Nat.lt_of_lt_of_le hy (f1 o ho).1.nx),q6 y hy]))
  have h1:=(f1 o ho).2.1;have h3:=(f2 z hz).2.1;have h4:=hro z (h2 z hz);omega
 ·have:=hk o h2 g1 a1 w1 x q0 q1 q2 q3 q4 q5 q6;generalize o.e=e at q0 he;cases q0 with
  |normal=>exact absurd rfl he
  |exit id=>exact this
  |ret=>exact this
  |pan hv=>exact this
theorem QF (id i:Nat):leave id (.exit i)=if i=id then .normal else .exit i:=by
 show sel (Nat.beq i id) Ex.normal (.exit i)=_;rw[aA,beq_eq];by_cases h:i=id<;>simp[h]
theorem dk.block {nt id:Nat} {c:Code} {tm:Tr SV} {mk:List Dm} {h:Hs} {l r:List Oc} (k1:dk E nt c tm mk h l) (hr:∀x,x∈r↔∃o∈l,x=⟨leave id o.e,o.tm,o.dm,o.h⟩):dk E nt (.block id c) tm mk h r:=by
 obtain ⟨n1,f1,s1⟩:=k1;refine ⟨?_,fun x hx=> ?_,fun ro m g a w Q hok hro hE hfr hrr hm hnx hk=>wpIn_block (lr ?_)⟩
 ·obtain ⟨o,ho⟩:=List.exists_mem_of_ne_nil _ n1;exact List.ne_nil_of_mem ((hr ⟨leave id o.e,o.tm,o.dm,o.h⟩).2 ⟨o,ho,rfl⟩)
 ·obtain ⟨o,ho,rfl⟩:=(hr x).1 hx;exact f1 o ho
 refine s1 ro m g a w _ hok (hro.imp_right fun hro o ho=>hro ⟨leave id o.e,o.tm,o.dm,o.h⟩ ((hr _).2 ⟨o,ho,rfl⟩)) hE hfr hrr hm hnx (fun o ho g1 a1 w1 x q0 q1 q2 q3 q4 q5 q6=> ?_)
 have key:∀y,ExR g1 (leave id o.e) y->Q y a1 w1:=fun y hy=>hk ⟨leave id o.e,o.tm,o.dm,o.h⟩ ((hr _).2 ⟨o,ho,rfl⟩) g1 a1 w1 y hy q1 q2 q3 q4 q5 q6
 generalize he:o.e=e at q0 key;cases q0 with
 |normal=>exact key _ .normal
 |ret=>exact key _ .ret
 |pan hv=>exact key _ (.pan hv)
 |exit i=>
  rw[QF] at key;show (if i=id then Q .normal a1 w1 else Q (.exit i) a1 w1)
  split
  ·rename_i hi;rw[if_pos hi] at key;exact key _ .normal
  ·rename_i hi;rw[if_neg hi] at key;exact key _ (.exit i)
theorem dk.calm {nt:Nat} {c:Code} {tm:Tr SV} {mk:List Dm} {h:Hs} {e:Ex} (x:Exit) (hx:∀g,ExR g e x) (hb:Bd h) (hw:∀(ro:Option Nat) (m:Nat) (Q:Exit->Act->World->Prop) (a:Act) (w:World),Q x a w->wpX (fro ro) m E.P c Q a w):dk E nt c tm mk h [⟨e,tm,mk,h⟩]:=
 ⟨by simp,fun o ho=>by
  obtain rfl:=List.mem_singleton.1 ho;exact ⟨Fac.refl hb,gU.refl _ _⟩,fun ro m g a w Q _ _ hE hfr hr hm hnx hk=>hw ro m Q a w (hk ⟨e,tm,mk,h⟩ (by simp) g a w x (hx g) hfr hr (Fr.refl _ _ _) hm hnx fun _ _=>rfl)⟩
theorem dk.ops {nt id:Nat} {ops:Array Oper} {tm:Tr SV} {mk:List Dm} {h:Hs} {r:List Oc} (k:OpsS E nt ops ops.toList tm mk h r):dk E nt (.region id ops false) tm mk h r:=by
 obtain ⟨n1,f1,s1⟩:=k;refine ⟨n1,f1,fun ro m g a w Q hok hro hE hfr hr hm hnx hk=>wpIn_region ?_⟩
 have:=s1 ro m g a w Q hro hE hfr hr hm hnx hk;simpa[List.range_eq_range'] using this
theorem dk.draw {nt id:Nat} {ops:Array Oper} {tm tm1:Tr SV} {mk:List Dm} {h h1:Hs} {out:List St}
  (hf:Sp h.nx 0 ops.size ⟨h.hp,Nat.add h.nx ops.size,h.lg⟩ h1) (hd:DT E nt ops.size ops h.nx 0 [] ops.toList tm.get h.hp.get (Nat.add h.nx ops.size) tm1.get h1.hp.get h1.nx out):dk E nt (.region id ops true) tm mk h [⟨.normal,tm1,mk,h1⟩]:=by
 have ZK:h.nx<=h1.nx:=Nat.le_trans (Nat.le_add_right _ _) hf.nx;refine ⟨by simp,fun o ho=> ?_,fun ro m g a w Q hok hro hE hfr hr hm hnx hk=> ?_⟩
 ·obtain rfl:=List.mem_singleton.1 ho;exact ⟨⟨ZK,hf.bd,fun x hx hn=>hf.lg x (Nat.lt_of_lt_of_le hx (Nat.le_add_right _ _)) (by omega) hn,hf.sub,fun x hx hn=>hf.dead x (Nat.lt_of_lt_of_le hx (Nat.le_add_right _ _)) (by omega) hn⟩,gU.refl _ _⟩
 exact yX (show nh ops.size ops.toList ops.toList 0 0 []=true from hok) hE.mix (List.take_of_length_le (Nat.le_refl _)) hd (Nat.le_add_right _ _) hE hfr hr hnx (.inl (by simp)) (fun _ g1 a1 w1 q1 q2 q3 q4 q5 q6=>hk ⟨.normal,tm1,mk,h1⟩ (by simp) g1 a1 w1 _ .normal q1 q2 q3 (by rw[q4];exact hm.mono q3.le) q6 q5)
theorem dk.afe {nt id:Nat} {ops:Array Oper} {tm tm1:Tr SV} {mk:List Dm} {h h1:Hs} {out:List St} {l0:List Oper} {o:Oper} {F1:Hf} {nx1:Nat} {v:SV}
  (hf:Sp h.nx 0 ops.size ⟨h.hp,Nat.add h.nx ops.size,h.lg⟩ h1) (hl:ops.toList=l0++ [o]) (hd:DT E nt ops.size ops h.nx 0 [] l0 tm.get h.hp.get (Nat.add h.nx ops.size) tm1.get F1 nx1 out) (hp:CndP E nt ops (0+l0.length) o tm1.get F1 nx1 v h1.hp.get h1.nx):dk E nt (.region id ops true) tm mk h [⟨.pan v,tm1,mk,h1⟩]:=by
 have ZK:h.nx<=h1.nx:=Nat.le_trans (Nat.le_add_right _ _) hf.nx;refine ⟨by simp,fun o ho=> ?_,fun ro m g a w Q hok hro hE hfr hr hm hnx hk=> ?_⟩
 ·obtain rfl:=List.mem_singleton.1 ho;exact ⟨⟨ZK,hf.bd,fun x hx hn=>hf.lg x (Nat.lt_of_lt_of_le hx (Nat.le_add_right _ _)) (by omega) hn,hf.sub,fun x hx hn=>hf.dead x (Nat.lt_of_lt_of_le hx (Nat.le_add_right _ _)) (by omega) hn⟩,gU.refl _ _⟩
 rw[Nat.zero_add] at hp;have hlen:=hp.last;refine yX (Q:=Q) (show nh ops.size ops.toList ops.toList 0 0 []=true from hok) hE.mix (by rw[hl];simp) hd (Nat.le_add_right _ _) hE hfr hr hnx (.inr ⟨hlen,?_,hp.anc,fun g1 a1 w1 K q0 q1 q2 q3 q4 q5 q6=> ?_⟩) (fun he=>by omega)
 ·rw[wN hp.op];exact hp.lt
 ·refine hp.sem ro m g1 a1 w1 Q K q0 q1 q2 q6 (fun u w2 g2 r1 r2 r3 r4 r5=> ?_)
  refine hk ⟨.pan v,tm1,mk,h1⟩ (by simp) g2 a1 w2 _ (.pan r1) (q1.mono r3.le) r2 (q3.trans r3) (by rw[q4];exact hm.mono (q3.trans r3).le) r5 (fun x hx=> ?_)
  have hb1:h.nx<=nx1:=by
   by_cases hc:h.nx<=nx1
   ·exact hc
   ·exfalso;have:=hd.aiw;have h3:h.nx<=Nat.add h.nx ops.size:=Nat.le_add_right _ _;omega
  rw[r4 x (by omega),q5 x hx]
theorem sW.zero (ops:Array Oper) (W:Nat):sW ops W 0 0:=fun p hp=>by simp at hp
theorem Xq {j:Option Code} {tm:Tr SV} {mk:List Dm} {h:Hs} {Q:Out->Prop} (hf:∀s,Q (.fail s)) (h1:j=none->Q (.code .normal tm mk h)) (h2:j=some .ret->Q (.code .ret tm mk h)) (h3:∀id,j=some (.exit id)->Q (.code (.exit id) tm mk h)):Q (adn j tm mk h):=by
 cases j with
 |none=>exact h1 rfl
 |some c=>cases c<;>first|exact hf _|exact h2 rfl|exact h3 _ rfl
theorem Qv {s:LoopState} (h:DW s=true):s≠ .busy:=by intro e;subst e;cases h
theorem pE (nt:Nat) (tm:Tr SV) (ps:List Nat) (aa bo:Code) (h:Hs):(iz nt tm ps aa bo h).hp.get=upF (upF h.hp.get (h.nx,some .dfr)) (h.nx+1,some (.loop nt tm ps aa bo .ready none h.nx)):=by
 funext x;show ((h.hp.set h.nx (some .dfr)).set (h.nx+1) (some (SO.loop nt tm ps aa bo .ready none h.nx))).get x=_;rw[Tr.da,Tr.da];rfl
theorem RG {nt:Nat} {tm:Tr SV} {ps:List Nat} {aa bo:Code} {h:Hs} (hb:Bd h):Fac h (iz nt tm ps aa bo h):=by
 refine ⟨Nat.le_add_right _ _,fun x hx=> ?_,fun x hx _=> ?_,fun _ hx=>hx,fun x hx hn=> ?_⟩
 ·have hx:h.nx+2<=x:=hx;rw[pE,upF,upF,if_neg (show x≠h.nx+1 by omega),if_neg (show x≠h.nx by omega)]
  exact hb x (by omega)
 ·rw[pE,upF,upF,if_neg (show x≠h.nx+1 by omega),if_neg (show x≠h.nx by omega)]
 ·rw[pE,upF,upF,if_neg (show x≠h.nx+1 by omega),if_neg (show x≠h.nx by omega)]
  exact hn
theorem xq {h:Hs} {l:Nat} {o o':SO} (hb:Bd h) (hl:h.hp.get l=some o):Fac h (h.put l o'):=by
 have hlt:l<h.nx:=by
  by_cases hc:h.nx<=l
  ·rw[hb l hc] at hl;simp at hl
  ·omega
 have hg:∀x,(h.put l o').hp.get x=if x=l then some o' else h.hp.get x:=fun x=>Tr.da _ _ _ _
 refine ⟨Nat.le_refl _,fun x hx=> ?_,fun x hx hn=> ?_,fun x hx=>List.mem_cons_of_mem _ hx,fun x hx hn=> ?_⟩
 ·have hx:h.nx<=x:=hx;rw[hg,if_neg (by omega)];exact hb x hx
 ·have hn:x∉l::h.lg:=hn;rw[hg,if_neg (fun e=>hn (by simp[e]))]
 ·rw[hg,if_neg (fun e=>by subst e;rw[hl] at hn;simp at hn)];exact hn
theorem DI (h:Hs) (l:Nat) (o:SO):(h.put l o).hp.get=upF h.hp.get (l,some o):=funext fun x=>Tr.da _ _ _ _
theorem HR.loop {h:Hf} {w:World} {l b c nt dd:Nat} {tm:Tr SV} {ps:List Nat} {aa bo:Code} {st:LoopState} {pe:Option Code} (hr:HR g h w) (hl:h l=some (.loop nt tm ps aa bo st pe dd)) (hρ:g.ρ l=some (b,c)) (st':LoopState) (pe':Option Code):
  ∃r:Loop,w.heap[b]? =some (.loop r)/\r.state=st/\r.pending=pe/\HR g (upF h (l,some (.loop nt tm ps aa bo st' pe' dd))) (w.putObj b (.loop {r with state:=st',pending:=pe'}))/\Fr g h w g (upF h (l,some (.loop nt tm ps aa bo st' pe' dd))) (w.putObj b (.loop {r with state:=st',pending:=pe'})):=by
 obtain ⟨hlt,hor⟩:=hr.at hl hρ;obtain ⟨k1,k2,r,h1,h2,h3,h4,h5,h6,h7,o',h8⟩:=hor;have hw:=HR.write hr (o':=.loop nt tm ps aa bo st' pe' dd) (w':=w.putObj b (.loop {r with state:=st',pending:=pe'})) hl hρ (by simp) (fun k hk=>World.putObj_heap_other hk)
  ⟨k1,k2,{r with state:=st',pending:=pe'},by simp[World.putObj,hlt],rfl,rfl,h4,h5,h6,h7,o',h8⟩ rfl rfl rfl
 exact ⟨r,h1,h2,h3,hw.1,hw.2⟩
end
section
variable {E:Env} {g:Gh} {f:Hf} {w:World}
theorem rZ {x:SV} (h:uE E x=true):∃k fi ca fn,x= .fn (.func k) fi ca/\E.fn.get k=some fn/\fn.body.isSome=true:=by
 cases x with
 |fn f fi ca=>
  cases f with
  |func k=>
   have h: @Option.rec Func (fun _=>Bool) false (fun fn=>fn.body.isSome) (E.fn.get k)=true:=h
   cases hf:E.fn.get k with
   |none=>rw[hf] at h;cases h
   |some fn=>rw[hf] at h;exact ⟨k,fi,ca,fn,rfl,hf,h⟩
  |_=>cases h
 |_=>cases h
theorem gF {P:Program} {k:FuncId} {fn:Func} (hf:P.funcs[k]? =some fn) (hb:fn.body.isSome=true) (args:Array Value) (w:World):
  ((callFunc k args).run P w= .ok .numGoroutine w/\fn.name= "runtime.NumGoroutine")\/(callFunc k args).run P w= .ok (.enter k args) w:=by
 have h2:fn.body≠none:=by cases hfb:fn.body<;>simp_all
 by_cases h:fn.name= "runtime.NumGoroutine"
 ·left;exact ⟨by simp[callFunc,hf,h,Sem.run],h⟩
 ·right;simp[callFunc,hf,h,h2,Sem.run]
theorem qz {P:Program} (k:FuncId) (fi ca us:Array Value) (w:World):(Deferred.ofValue (.func (.func k) fi ca) us).run P w= .ok {target:=.fn (.func k) ca,args:=fi++us} w:=rfl
theorem Qi (hS:kM E) {nt:Nat} {fop:Operand} {ps:Array Nat} {aa bo as' bo':Code} {tm tm0:Tr SV} {mk:List Dm} {ps':List Nat} {h h2:Hs} {gv v:SV} {nt' dd:Nat} {st:LoopState} {im:Option Code} {e:Ex}
  (hgo:uE E gv=true) (hgv:aI tm.get fop=some gv) (hs:Bd (iz nt tm ps.toList aa bo h)->Fac (iz nt tm ps.toList aa bo h) h2/\ke E false gv [.yld (h.nx+1)] (iz nt tm ps.toList aa bo h).hp.get (h.nx+2) v h2.hp.get h2.nx)
  (hl:h2.hp.get (h.nx+1)=some (.loop nt' tm0 ps' as' bo' st im dd)) (hst:DW st=true) (he:(im=none/\e= .normal)\/(im=some .ret/\e= .ret)\/(∃id,im=some (.exit id)/\e= .exit id))
  (hb:Bd h):dk E nt (.rangeFunc fop ps aa bo) tm mk h [⟨e,tm,.mark h.nx::mk,h2.put (h.nx+1) (.loop nt' tm0 ps' as' bo' .exhausted im dd)⟩]:=by
 have f0:=RG (nt:=nt) (tm:=tm) (ps:=ps.toList) (aa:=aa) (bo:=bo) hb;obtain ⟨f1,sem⟩:=hs f0.bd;have f3:=xq (o':=SO.loop nt' tm0 ps' as' bo' .exhausted im dd) f1.bd hl;refine ⟨by simp,fun o ho=> ?_,fun ro m g a w Q hok hro hE hfr hr hm hnx hk=> ?_⟩
 ·obtain rfl:=List.mem_singleton.1 ho;refine ⟨(f0.trans f1).trans f3,by simp,fun x hx=> ?_⟩
  rcases List.mem_cons.1 hx with hx|hx
  ·cases hx;exact .inr (Nat.le_refl _)
  ·exact .inl hx
 have hok:(codeOk aa&&codeOk bo)=true:=hok;rw[Bool.and_eq_true] at hok;obtain ⟨ha,hbo⟩:=hok;have hro:ro=none:=by
  rcases hro with hh|hh
  ·exact hh
  ·have:=hh ⟨e,tm,.mark h.nx::mk,h2.put (h.nx+1) (.loop nt' tm0 ps' as' bo' .exhausted im dd)⟩ (by simp)
   simp at this
 subst hro;show (Code.rangeFunc fop ps aa bo).wpIn (fro none) m E.P Q a w;refine wpIn_rangeFunc (fun fn _=> ?_)
 obtain ⟨r1,F1⟩:=HR.alloc (l:=0) (e:=0) hr (hnx h.nx (Nat.le_refl _)) (o':=.dfr) (w':=w.alloc (.deferred (some []))) rfl (World.alloc_heap_new _ _);have hn1:(g.bind h.nx (w.heap.size,0) 0 0).ρ (h.nx+1)=none:=by rw[Gh.ee _ _ _ _ (by omega)];exact hnx _ (by omega)
 have hs1:(w.alloc (.deferred (some []))).heap.size=w.heap.size+1:=by simp
 have ZM:=Gh.tv (p:=((w.alloc (.deferred (some []))).heap.size,0)) (l:=0) (e:=0) hn1;obtain ⟨r2,F2⟩:=HR.alloc (l:=0) (e:=0) r1 hn1 (o':=.loop nt tm ps.toList aa bo .ready none h.nx) (w':=(w.alloc (.deferred (some []))).alloc (.loop {state:=.ready,pending:=none,fn:=fn,tmps:=a.tmps,params:=ps,assign:=aa,body:=bo,defers:=w.heap.size})) rfl
  ⟨ha,hbo,_,World.alloc_heap_new _ _,rfl,rfl,rfl,rfl,rfl,hfr.mono (F1.le.trans ZM),0,by
   rw[Gh.ee _ _ _ _ (by omega)];exact Gh.dg _ _ _ _ _⟩
 rw[<-pE] at r2 F2;generalize hg2:(g.bind h.nx (w.heap.size,0) 0 0).bind (h.nx+1) ((w.alloc (.deferred (some []))).heap.size,0) 0 0=g2 at r2 F2 ZM;have hρl:g2.ρ (h.nx+1)=some (w.heap.size+1,0):=by rw[<-hg2,Gh.dg,hs1]
 have hρd:g2.ρ h.nx=some (w.heap.size,0):=ZM.ρ _ _ (Gh.dg _ _ _ _ _);have hρo:∀x,x≠h.nx->x≠h.nx+1->g2.ρ x=g.ρ x:=fun x h1 h2=>by rw[<-hg2,Gh.ee _ _ _ _ h2,Gh.ee _ _ _ _ h1]
 have hle:g.le g2:=F1.le.trans F2.le;obtain ⟨k,fi,ca,fn',rfl,hfn,gj⟩:=rZ hgo;have hu:=(fL hfr hgv).mono hle;generalize hae:a.eval fop=u at hu;cases hu with
 | @fn _ first dr _ _ hv1 hv2=>
 obtain ⟨d,hd1,hd2⟩:=sem (m-1) g2 ((w.alloc (.deferred (some []))).alloc (.loop {state:=.ready,pending:=none,fn:=fn,tmps:=a.tmps,params:=ps,assign:=aa,body:=bo,defers:=w.heap.size})) _ [.func (.yield (w.heap.size+1)) #[] #[]] (hE.mono hle) r2 (fun x hx=>by rw[hρo x (by omega) (by omega)];exact hnx x (by omega)) (.fn hv1 hv2) (.cons (.yld hρl) .nil)
 have hd:d={target:=.fn (.func k) dr,args:=first++ #[.func (.yield (w.heap.size+1)) #[] #[]]}:=by
  rw[qz] at hd1;cases hd1;rfl
 subst hd;have uD:∃as',(invoke (.fn (.func k) dr) (first++ #[.func (.yield (w.heap.size+1)) #[] #[]])).run E.P ((w.alloc (.deferred (some []))).alloc (.loop {state:=.ready,pending:=none,fn:=fn,tmps:=a.tmps,params:=ps,assign:=aa,body:=bo,defers:=w.heap.size}))= .ok (.enter k as') ((w.alloc (.deferred (some []))).alloc (.loop {state:=.ready,pending:=none,fn:=fn,tmps:=a.tmps,params:=ps,assign:=aa,body:=bo,defers:=w.heap.size}))/\
   CallsIn Fence.wide (m-1) E.P k as' ((w.alloc (.deferred (some []))).alloc (.loop {state:=.ready,pending:=none,fn:=fn,tmps:=a.tmps,params:=ps,assign:=aa,body:=bo,defers:=w.heap.size})) fun e w'=>∃r,e=BP false r/\∃g',VR g' r v/\HR g' h2.hp.get w'/\Fr g2 (iz nt tm ps.toList aa bo h).hp.get ((w.alloc (.deferred (some []))).alloc (.loop {state:=.ready,pending:=none,fn:=fn,tmps:=a.tmps,params:=ps,assign:=aa,body:=bo,defers:=w.heap.size})) g' h2.hp.get w'/\(∀x,x<h.nx+2->g'.ρ x=g2.ρ x)/\∀x,h2.nx<=x->g'.ρ x=none:=by
  have eJ:∀(args:Array Value) (w:World),(invoke (.fn (.func k) dr) args).run E.P w=(callFunc k (args++dr)).run E.P w:=fun _ _=>rfl
  rcases gF (hS.fn k fn' hfn).1 gj (first++ #[.func (.yield (w.heap.size+1)) #[] #[]]++dr) ((w.alloc (.deferred (some []))).alloc (.loop {state:=.ready,pending:=none,fn:=fn,tmps:=a.tmps,params:=ps,assign:=aa,body:=bo,defers:=w.heap.size})) with ⟨hc,_⟩|hc
  ·rcases hd2 with ⟨k',as',q1,q2⟩|⟨l,k',t',as',b',q1,_⟩|⟨r,w',q1,_⟩<;>(rw[eJ,hc] at q1;cases q1)
  ·rcases hd2 with ⟨k',as',q1,q2⟩|⟨l,k',t',as',b',q1,_⟩|⟨r,w',q1,_⟩
   ·have q0:=q1;rw[eJ,hc] at q1;cases q1;exact ⟨_,q0,q2⟩
   ·rw[eJ,hc] at q1;cases q1
   ·rw[eJ,hc] at q1;cases q1
 obtain ⟨as2,hinv,uD⟩:=uD;refine ⟨w.heap.size+1,[{target:=.collected w.heap.size,args:= #[]}],_,{target:=.fn (.func k) dr,args:=first++ #[.func (.yield (w.heap.size+1)) #[] #[]]},_,k,as2,_,run_enterLoop_outer _ _ _ _ _,?_,fun _ _=>trivial,hinv,fun h=>by simp[fro] at h,?_⟩
 ·have Lc:(#[Operand.const (.func (.yield (w.heap.size+1)) #[] #[])]:Array Operand).map a.eval= #[.func (.yield (w.heap.size+1)) #[] #[]]:=by
   apply Array.ext';rw[Array.toList_map];rfl
  simp only[resolve,rangeCall];rw[Lc,hae];rfl
 refine CallsIn.mono (F:=fro none) (show CallsIn (fro none) (m-1) E.P k as2 _ _ from uD) ?_;rintro e' w3 ⟨r,rfl,g3,hv3,hr3,hf3,hρ3,hn3⟩;obtain ⟨rec,q1,q2,q3,q4,q5⟩:=HR.loop hr3 hl (hf3.le.ρ _ _ hρl) .exhausted im;subst q3;refine ⟨rec.pending,_,run_endLoop q1 (by rw[q2];exact Qv hst),?_⟩
 rw[<-DI] at q4 q5;have fin:=fun x hx=>hk ⟨e,tm,.mark h.nx::mk,h2.put (h.nx+1) (.loop nt' tm0 ps' as' bo' .exhausted rec.pending dd)⟩ (by simp) g3 {a with defers:= [{target:=.collected w.heap.size,args:= #[]}]++a.defers} _ x hx (hfr.mono (hle.trans hf3.le)) q4 (((F1.trans F2).trans hf3).trans q5) (.mark (hf3.le.ρ _ _ hρd) (hm.mono (hle.trans hf3.le))) hn3 (fun x hx=>by rw[hρ3 x (by omega),hρo x (by omega) (by omega)])
 rcases he with ⟨hp,rfl⟩|⟨hp,rfl⟩|⟨id,hp,rfl⟩
 ·have fin:=fin _ .normal;rw[hp] at fin ⊢;exact fin
 ·have fin:=fin _ .ret;rw[hp] at fin ⊢;exact wpIn_ret fin
 ·have fin:=fin _ (.exit id);rw[hp] at fin ⊢;exact wpIn_exit fin
theorem YY {r:Out} {k kp:SV->Hs->Out} {Q:Out->Prop} (hf:∀s,Q (.fail s)) (ht:∀a b c,Q (.qj a b c)) (hr:∀v h2,r= .res v h2->Q (k v h2)) (hp:∀v h2,r= .pan v h2->Q (kp v h2)):Q (DO r k kp):=by
 cases r with
 |bX l=>
  cases l with
  |nil=>exact hf _
  |cons r l=>
   cases l with
   |nil=>
    obtain ⟨pan,v,h2⟩:=r;cases pan with
    |false=>exact hr v h2 rfl
    |true=>exact hp v h2 rfl
   |cons _ _=>exact hf _
 |fail s=>exact hf _
 |qj a b c=>exact ht _ _ _
 |_=>exact hf _
theorem Ns (hS:kM E) {rec:Job->Out} (cu:∀j,Sound E j (rec j)) (nt:Nat) (fop:Operand) (ps:Array Nat) (aa bo:Code) (tm:Tr SV) (mk:List Dm) (h:Hs):
  Sound E (.code nt (.rangeFunc fop ps aa bo) tm mk h) (JW E rec nt (aI tm.get fop) ps.toList aa bo tm mk h):=by
 unfold JW;cases hg:aI tm.get fop with
 |none=>trivial
 |some gv=>
  show Sound E _ (sel (uE E gv) (DO (rec (.call gv [.yld (h.nx+1)] (iz nt tm ps.toList aa bo h))) (fun _ h2=>Aa (h.nx+1) h.nx tm mk h2) fun _ _=>.fail "panic in a range") (.fail "rangeFunc"))
  rw[aA];split;rotate_left
  ·trivial
  rename_i hgo;refine YY (Q:=Sound E _) (fun _=>trivial) (fun _ _ _=>trivial) (fun v h2 hv=> ?_) (fun _ _ _=>trivial)
  have hs:=cu (.call gv [.yld (h.nx+1)] (iz nt tm ps.toList aa bo h));rw[hv] at hs;have hs:Bd (iz nt tm ps.toList aa bo h)-> [(⟨false,v,h2⟩:Rs)]≠ []/\(∀r∈ [(⟨false,v,h2⟩:Rs)],Fac (iz nt tm ps.toList aa bo h) r.h)/\kK E gv [.yld (h.nx+1)] (iz nt tm ps.toList aa bo h).hp.get (h.nx+2) [⟨false,v,h2⟩]:=hs;have hs:Bd (iz nt tm ps.toList aa bo h)->Fac (iz nt tm ps.toList aa bo h) h2/\ke E false gv [.yld (h.nx+1)] (iz nt tm ps.toList aa bo h).hp.get (h.nx+2) v h2.hp.get h2.nx:=fun hb=>⟨(hs hb).2.1 ⟨false,v,h2⟩ (by simp),(hs hb).2.2.one⟩
  unfold Aa;split;rotate_left
  ·trivial
  rename_i nt' tm0 ps' as' bo' st im dd hl;rw[aA];split;rotate_left
  ·trivial
  rename_i hst;have key:∀e,((im=none/\e= .normal)\/(im=some .ret/\e= .ret)\/(∃id,im=some (.exit id)/\e= .exit id))->Sound E (.code nt (.rangeFunc fop ps aa bo) tm mk h) (.code e tm (.mark h.nx::mk) (h2.put (h.nx+1) (.loop nt' tm0 ps' as' bo' .exhausted im dd))):=by
   intro e he hb;exact Qi hS hgo hg hs hl hst he hb
  exact Xq (Q:=Sound E _) (fun _=>trivial) (fun hp=>key _ (.inl ⟨hp,rfl⟩)) (fun hp=>key _ (.inr (.inl ⟨hp,rfl⟩))) (fun id hp=>key _ (.inr (.inr ⟨id,hp,rfl⟩)))
theorem o8 {e:Ex} {tm:Tr SV} {mk:List Dm} {h:Hs} {k:Tr SV->List Dm->Hs->Out} {r:List Oc} (hs:seqE e tm mk h k= .aS r):(e= .normal/\k tm mk h= .aS r)\/(e≠ .normal/\r= [⟨e,tm,mk,h⟩]):=by
 cases e with
 |normal=>exact .inl ⟨rfl,hs⟩
 |exit id=>cases hs;exact .inr ⟨fun e=>(by cases e),rfl⟩
 |ret=>cases hs;exact .inr ⟨fun e=>(by cases e),rfl⟩
 |pan v=>cases hs;exact .inr ⟨fun e=>(by cases e),rfl⟩
theorem Az (hS:kM E) {rec:Job->Out} (cu:∀j,Sound E j (rec j)) (nt:Nat) (c:Code) (tm:Tr SV) (mk:List Dm) (h:Hs):Sound E (.code nt c tm mk h) (adH c E rec nt tm mk h):=by
 cases c with
 |skip=>exact fun hb=>dk.calm .normal (fun _=>.normal) hb fun ro m Q a w hq=>wpIn_skip hq
 |ret=>exact fun hb=>dk.calm .ret (fun _=>.ret) hb fun ro m Q a w hq=>wpIn_ret hq
 |exit id=>exact fun hb=>dk.calm (.exit id) (fun _=>.exit id) hb fun ro m Q a w hq=>wpIn_exit hq
 |region id ops draw=>
  cases draw with
  |false=>
   show Sound E _ (rec (.ops nt ops.toList ops.toList tm mk h));have hs:=cu (.ops nt ops.toList ops.toList tm mk h);cases hr:rec (.ops nt ops.toList ops.toList tm mk h) with
   |aS r=>
    rw[hr] at hs;intro hb;exact dk.ops (hs ops rfl (by simp) hb)
   |_=>trivial
  |true=>
   show Sound E _ (stK (rec (.draw nt ops.size ops.toList h.nx 0 0 [] ops.toList tm ⟨h.hp,Nat.add h.nx ops.size,h.lg⟩)) (fun e tm' _ h'=>.code e tm' mk h') fun tm' h'=>.code .normal tm' mk h')
   have hs:=cu (.draw nt ops.size ops.toList h.nx 0 0 [] ops.toList tm ⟨h.hp,Nat.add h.nx ops.size,h.lg⟩);cases hr:rec (.draw nt ops.size ops.toList h.nx 0 0 [] ops.toList tm ⟨h.hp,Nat.add h.nx ops.size,h.lg⟩) with
   |st tm1 h1=>
    rw[hr] at hs;intro hb;obtain ⟨f1,out,hd⟩:=hs ops rfl rfl (by simp) (Nat.le_refl _) (fun x hx=>hb x (Nat.le_trans (Nat.le_add_right _ _) hx)) (fun x hx hc=>hx (hb x (by omega))) (sW.zero _ _) (fun p hp=>by simp at hp) [] rfl
    exact dk.draw f1 hd
   |aS r=>
    rw[hr] at hs;have hs:Sound E (.draw nt ops.size ops.toList h.nx 0 0 [] ops.toList tm ⟨h.hp,Nat.add h.nx ops.size,h.lg⟩) (.aS r):=hs;cases bf:stK (.aS r) (fun e tm' _ h'=>.code e tm' mk h') fun tm' h'=>.code .normal tm' mk h' with
    |aS r2=>
     intro hb;obtain ⟨v,tm',dm,h',rfl,f1,l0,o,out,F1,nx1,e1,d1,d2⟩:=hs ops rfl rfl (by simp) (Nat.le_refl _) (fun x hx=>hb x (Nat.le_trans (Nat.le_add_right _ _) hx)) (fun x hx hc=>hx (hb x (by omega))) (sW.zero _ _) (fun p hp=>by simp at hp) [] rfl
     cases (show Out.aS [⟨.pan v,tm',mk,h'⟩]= .aS r2 from bf);exact dk.afe f1 e1 d1 d2
    |_=>trivial
   |_=>trivial
 |seq a b=>
  show Sound E _ (sD (rec (.code nt a tm mk h)) fun tm' mk' h'=>rec (.code nt b tm' mk' h'))
  cases bf:sD (rec (.code nt a tm mk h)) fun tm' mk' h'=>rec (.code nt b tm' mk' h') with
  |aS r=>
   obtain ⟨l1,h1,h2⟩:=qx bf;obtain ⟨_,q1,q2⟩:=kW h2;have hs:=cu (.code nt a tm mk h);rw[h1] at hs;intro hb;have k1:=hs hb;have sub:∀(o:Oc) r',o∈l1->rec (.code nt b o.tm o.dm o.h)= .aS r'->dk E nt b o.tm o.dm o.h r':=fun o r' ho hr'=>by
    have:=cu (.code nt b o.tm o.dm o.h);rw[hr'] at this;exact this (k1.2.1 o ho).1.bd
   refine k1.seq (fun o ho=> ?_) (fun x hx=> ?_)
   ·obtain ⟨r',e1,e2⟩:=q1 o ho;rcases o8 e1 with ⟨he,hr'⟩|⟨he,rfl⟩
    ·exact .inl ⟨he,r',sub o r' ho hr',e2⟩
    ·exact .inr ⟨he,e2 _ (by simp)⟩
   ·obtain ⟨o,ho,r',e1,e2⟩:=q2 x hx;rcases o8 e1 with ⟨he,hr'⟩|⟨he,rfl⟩
    ·exact ⟨o,ho,.inl ⟨r',sub o r' ho hr',e2⟩⟩
    ·exact ⟨o,ho,.inr (List.mem_singleton.1 e2)⟩
  |_=>trivial
 |cond c a b=>
  show Sound E _ (BX (aI tm.get c) (rec (.code nt a tm mk h)) (rec (.code nt b tm mk h)));unfold BX;cases hv:ai (aI tm.get c) iC with
  |none=>trivial
  |some t=>
   obtain ⟨x,h1,h2⟩:=ae hv;obtain rfl:=lz h2;have hev:∀(g:Gh) (ac:Act),FR g nt tm.get ac.tmps->ac.eval c= .bool t:=fun g ac hfr=>by
    have:=fL hfr h1;generalize ac.eval c=u at this;cases this;rfl
   show Sound E _ (sel t (rec (.code nt a tm mk h)) (rec (.code nt b tm mk h)));cases t with
   |true=>
    show Sound E _ (rec (.code nt a tm mk h));have hs:=cu (.code nt a tm mk h);cases hr:rec (.code nt a tm mk h) with
    |aS r=>
     rw[hr] at hs;intro hb;obtain ⟨n1,f1,s1⟩:=hs hb;exact ⟨n1,f1,fun ro m g ac w Q hok hro hE hfr hrr hm hnx hk=>wpIn_cond_true (hev g ac hfr) (lr (s1 ro m g ac w Q (okL hok) hro hE hfr hrr hm hnx hk))⟩
    |_=>trivial
   |false=>
    show Sound E _ (rec (.code nt b tm mk h));have hs:=cu (.code nt b tm mk h);cases hr:rec (.code nt b tm mk h) with
    |aS r=>
     rw[hr] at hs;intro hb;obtain ⟨n1,f1,s1⟩:=hs hb;exact ⟨n1,f1,fun ro m g ac w Q hok hro hE hfr hrr hm hnx hk=>wpIn_cond_false (hev g ac hfr) (lr (s1 ro m g ac w Q (okR hok) hro hE hfr hrr hm hnx hk))⟩
    |_=>trivial
 |block id c=>
  show Sound E _ (B2 id (rec (.code nt c tm mk h)));cases bf:B2 id (rec (.code nt c tm mk h)) with
  |aS r=>
   obtain ⟨l1,h1,h2⟩:=qx bf;obtain ⟨_,q1,q2⟩:=kW h2;have hs:=cu (.code nt c tm mk h);rw[h1] at hs;intro hb;refine (hs hb).block (fun x=>⟨fun hx=> ?_,fun ⟨o,ho,hx⟩=> ?_⟩)
   ·obtain ⟨o,ho,r',e1,e2⟩:=q2 x hx;cases e1;exact ⟨o,ho,List.mem_singleton.1 e2⟩
   ·obtain ⟨r',e1,e2⟩:=q1 o ho;cases e1;subst hx;exact e2 _ (by simp)
  |_=>trivial
 |loop c=>
  show Sound E _ (sD (rec (.code nt c tm mk h)) fun tm' mk' h'=>rec (.code nt (.loop c) tm' mk' h'))
  cases bf:sD (rec (.code nt c tm mk h)) fun tm' mk' h'=>rec (.code nt (.loop c) tm' mk' h') with
  |aS r=>
   obtain ⟨l1,h1,h2⟩:=qx bf;obtain ⟨_,q1,q2⟩:=kW h2;have hs:=cu (.code nt c tm mk h);rw[h1] at hs;intro hb;have k1:=hs hb;have sub:∀(o:Oc) r',o∈l1->rec (.code nt (.loop c) o.tm o.dm o.h)= .aS r'->dk E nt (.loop c) o.tm o.dm o.h r':=fun o r' ho hr'=>by
    have:=cu (.code nt (.loop c) o.tm o.dm o.h);rw[hr'] at this;exact this (k1.2.1 o ho).1.bd
   refine k1.loop (fun o ho=> ?_) (fun x hx=> ?_)
   ·obtain ⟨r',e1,e2⟩:=q1 o ho;rcases o8 e1 with ⟨he,hr'⟩|⟨he,rfl⟩
    ·exact .inl ⟨he,r',sub o r' ho hr',e2⟩
    ·exact .inr ⟨he,e2 _ (by simp)⟩
   ·obtain ⟨o,ho,r',e1,e2⟩:=q2 x hx;rcases o8 e1 with ⟨he,hr'⟩|⟨he,rfl⟩
    ·exact ⟨o,ho,.inl ⟨r',sub o r' ho hr',e2⟩⟩
    ·exact ⟨o,ho,.inr (List.mem_singleton.1 e2)⟩
  |_=>trivial
 |rangeFunc fop ps aa bo=>exact Ns hS cu nt fop ps aa bo tm mk h
 |_=>trivial
end
section
variable {E:Env} {g:Gh} {f:Hf} {w:World}
theorem HR.grow (h:HR g f w) {w':World} (hsz:w.heap.size<=w'.heap.size) (hs:∀b,b<w.heap.size->w'.heap[b]? =w.heap[b]?):HR g f w':=
 ⟨fun id o ho=>let ⟨b,c,q1,q2,q3⟩:=h.ob id o ho;⟨b,c,q1,Nat.lt_of_lt_of_le q2 hsz,q3.mono (.refl _) q1 (hs b q2)⟩,h.inj⟩
theorem HR.drop (h:HR g f w) {d r c:Nat} {o:SO} {w':World} (hd:f d=some o) (hρ:g.ρ d=some (r,c)) (hsz:w'.heap.size=w.heap.size) (wg:∀k,k≠r->w'.heap[k]? =w.heap[k]?) (h1:w'.os=w.os) (h2:w'.tape=w.tape) (h3:w'.output=w.output):
  HR g (upF f (d,none)) w'/\Fr g f w g (upF f (d,none)) w':=by
 have key:∀k z,upF f (d,none) k=some z->k≠d/\f k=some z:=by
  intro k z hz;simp only[upF] at hz;split at hz
  ·simp at hz
  ·rename_i hk;exact ⟨hk,hz⟩
 refine ⟨⟨fun id x hx=> ?_,fun i j x y b c d hx hy e1 e2=>h.inj i j x y b c d (key i x hx).2 (key j y hy).2 e1 e2⟩,⟨h1,h2,h3,by omega,.refl _,fun b hb hn=>wg b (fun e=>hn (by subst e;exact ⟨d,o,c,hd,hρ⟩)),fun b hb ⟨j,x,c',hx,hj⟩=>⟨j,x,c',(key j x hx).2,hj⟩⟩⟩
 obtain ⟨hne,hx⟩:=key id x hx;obtain ⟨b,c',q1,q2,q3⟩:=h.ob id x hx;refine ⟨b,c',q1,by omega,q3.mono (.refl _) q1 (wg b (fun e=> ?_))⟩
 subst e;exact hne (h.inj id d x o b c' c hx hd q1 hρ)
def JR (a:Act):ResultVar->Go.Sem Value
 | .tmp t=>pure (a.tmps.getD t undef)
 | .cell k t=>do loadVar t (<-asAddr (a.tmps.getD k undef))
theorem Nr (hE:bC E g) (h:HR g f w) {nt:Nat} {T:Tf} {a:Act} (hfr:FR g nt T a.tmps) {rv:ResultVar} {x:SV} (hx:AS E T f rv=some x):∃v,(JR a rv).run E.P w= .ok v w/\VR g v x:=by
 cases rv with
 |tmp t=>exact ⟨_,rfl,hfr.tm t x hx⟩
 |cell k t=>
  obtain ⟨y,hy,hl⟩:=ae (show ai (T k) (iE E f t)=some x from hx);have hu:=hfr.tm k y hy;obtain ⟨v,hv,hvr⟩:=Bi hE h hu hl;obtain ⟨q,h1,_⟩:=ae hl;obtain rfl:=g5 h1;refine ⟨v,?_,hvr⟩;generalize hz:a.tmps.getD k undef=z at hu hv;cases hu with
  |ptr hρ=>
   simp only[Instr.loadAt,Instr.sureAddr,Sem.run_bind,Sem.run_pure,Result.andThen_ok] at hv;simp only[JR,hz,asAddr,Sem.run_bind,Sem.run_pure,Result.andThen_ok];exact hv
theorem vM (hE:bC E g) (h:HR g f w) {nt:Nat} {T:Tf} {a:Act} (hfr:FR g nt T a.tmps):∀{rvs:List ResultVar} {xs:List SV},gH E T f rvs=some xs->∃vs,(rvs.mapM (JR a)).run E.P w= .ok vs w/\VRs g vs xs
 | [],xs,hx=>by cases hx;exact ⟨[],by simp,.nil⟩
 |rv::rvs,xs,hx=>by
  obtain ⟨x,l,h1,h2,hx⟩:=av (show aC (AS E T f rv) (gH E T f rvs) (fun v l=>some (v::l))=some xs from hx)
  cases hx;obtain ⟨v,hv1,hv2⟩:=Nr hE h hfr h1;obtain ⟨vs,hs1,hs2⟩:=vM hE h hfr h2;refine ⟨v::vs,?_,.cons hv2 hs2⟩;rw[List.mapM_cons];simp only[Sem.run_bind];rw[hv1];simp only[Result.andThen_ok];rw[hs1];simp
theorem vL (hE:bC E g) (h:HR g f w) {fn:Func} {nt:Nat} {T:Tf} {a:Act} (hfr:FR g nt T a.tmps) {xs:List SV} (hx:gH E T f fn.results.toList=some xs):∃v,(results fn a.tmps).run E.P w= .ok v w/\VR g v (oneOf xs):=by
 obtain ⟨vs,h1,h2⟩:=vM hE h hfr hx;refine ⟨if h:vs.toArray.size=1 then vs.toArray[0] else .tuple vs.toArray,?_,?_⟩
 ·have e:∀f:ResultVar->Go.Sem Value,(∀x,f x=JR a x)->fn.results.mapM f=fn.results.mapM (JR a):=fun f hf=>by rw[funext hf]
  unfold results;rw[e _ (fun x=>by cases x<;>rfl)]
  rw[<-Array.toArray_toList (xs:=fn.results),List.mapM_toArray];simp only[Sem.run_bind,Sem.run_map];rw[h1];simp
 ·cases h2 with
  |nil=>exact .tup (by simpa using .nil)
  | @cons v x vs' xs' hv ht=>
   cases ht with
   |nil=>simpa[oneOf] using hv
   | @cons v2 x2 vs2 xs2 hv2 ht2=>
    have:¬(v::v2::vs2).toArray.size=1:=by simp
    rw[dif_neg this];exact .tup (by simpa using .cons hv (.cons hv2 ht2))
theorem sC:∀(vs:List SV) (i:Nat) (t:Tr SV) (j:Nat),(setArgs vs i t).get j=if i<=j/\j<i+vs.length then vs[j-i]? else t.get j
 | [],i,t,j=>by
  have:¬(i<=j/\j<i+([]:List SV).length):=by simp
  rw[if_neg this];rfl
 |v::vs,i,t,j=>by
  have e:setArgs (v::vs) i t=setArgs vs (i+1) (t.set i (some v)):=rfl;rw[e,sC vs (i+1) _ j,Tr.da];by_cases h1:j=i
  ·subst h1;rw[if_neg (by omega),if_pos rfl,if_pos (by simp)]
   simp
  ·by_cases h2:i+1<=j/\j<i+1+vs.length
   ·rw[if_pos h2,if_pos (by simp;omega)]
    have:j-i=(j-(i+1))+1:=by omega
    rw[this,List.getElem?_cons_succ]
   ·rw[if_neg h2,if_neg h1,if_neg (by simp;omega)]
theorem FR.args {us:List Value} {aa:List SV} (h:VRs g us aa) {nt:Nat} (hn:aa.length<=nt):FR g nt (setArgs aa 0 .nil).get (us.toArray++Array.replicate (nt-us.toArray.size) undef):=by
 have hl:=h.length;refine ⟨by simp;omega,fun t x hx=> ?_⟩
 rw[sC] at hx;split at hx
 ·rename_i hc;obtain ⟨v,h1,h2⟩:=h.get hx;have hlt:t<us.length:=by omega
  have e:(us.toArray++Array.replicate (nt-us.toArray.size) undef).getD t undef=v:=by
   rw[Array.getD_eq_getD_getElem?,Array.getElem?_append_left (by simpa using hlt)]
   simp only[Nat.sub_zero] at h1;simp[h1]
  rw[e];exact h2
 ·cases hx
theorem ta {nt:Nat}:∀{ps:List Nat} {aa:List SV} {tm tm1:Tr SV} {tmps:Array Value} {us:List Value},oi nt tm ps aa=some tm1->VRs g us aa->FR g nt tm.get tmps->us.length=ps.length/\FR g nt tm1.get ((ps.zip us).foldl (fun tmps p=>tmps.setIfInBounds p.1 p.2) tmps)
 | [],[],tm,tm1,tmps,us,h,hu,hfr=>by
  cases h;cases hu;exact ⟨rfl,hfr⟩
 |p::ps,v::aa,tm,tm1,tmps,us,h,hu,hfr=>by
  cases hu with
  | @cons u _ us' _ hv ht=>
   obtain ⟨hp,h⟩:=ar (show sel (Nat.ble (Nat.succ p) nt) (oi nt (tm.set p (some v)) ps aa) none=some tm1 from h);have hp:p<tmps.size:=by rw[hfr.sz];exact (bj _ _).1 hp
   obtain ⟨q1,q2⟩:=ta (tmps:=tmps.setIfInBounds p u) h ht ⟨by simp[hfr.sz],fun t x hx=>by
    rw[Tr.da] at hx;split at hx
    ·rename_i e;subst e;cases hx;have:(tmps.setIfInBounds t u).getD t undef=u:=by
      rw[Array.getD_eq_getD_getElem?,Array.getElem?_setIfInBounds_self_of_lt hp];rfl
     rw[this];exact hv
    ·rename_i e;have:(tmps.setIfInBounds p u).getD t undef=tmps.getD t undef:=by
      rw[Array.getD_eq_getD_getElem?,Array.getElem?_setIfInBounds_ne (fun e'=>e e'.symm),<-Array.getD_eq_getD_getElem?]
     rw[this];exact hfr.tm t x hx⟩
   exact ⟨by simp[q1],q2⟩
 | [],_::_,tm,tm1,tmps,us,h,_,_=>by cases h
 |_::_,[],tm,tm1,tmps,us,h,_,_=>by cases h
theorem Q4 {s:LoopState} (h:isReady s=true):s= .ready:=by cases s<;>first|rfl|cases h
theorem y9 {e:Ex} (h:eH e=true):e= .normal:=by cases e<;>first|rfl|cases h
theorem Qc {nt nt1 nt3 l dd dd1 dd3:Nat} {tm0 tm1 tm2 tm3 Ii zm:Tr SV} {ps ps1 ps3:List Nat} {aa bo as1 bo1 as3 bo3:Code} {im xv ack:Option Code} {st st3:LoopState} {h h1 h3:Hs} {args:List SV} {e3:Ex} (hb:Bd h)
  (hl:h.hp.get l=some (.loop nt tm0 ps aa bo st im dd)) (hp:oi nt tm0 ps args=some tm1) (k1:dk E nt aa tm1 [] h [⟨.normal,tm2,[],h1⟩]) (hl1:h1.hp.get l=some (.loop nt1 Ii ps1 as1 bo1 .ready xv dd1))
  (k2:dk E nt bo tm2 [] (h1.put l (.loop nt1 Ii ps1 as1 bo1 .busy xv dd1)) [⟨e3,tm3,[],h3⟩]) (hnp:acp e3=true) (hl3:h3.hp.get l=some (.loop nt3 zm ps3 as3 bo3 st3 ack dd3)):
  Fac h (h3.put l (.loop nt3 zm ps3 as3 bo3 (sel (exJ e3).isNone .ready .done) (exJ e3) dd3))/\ke E false (.yld l) args h.hp.get h.nx (.bool (exJ e3).isNone) (h3.put l (.loop nt3 zm ps3 as3 bo3 (sel (exJ e3).isNone .ready .done) (exJ e3) dd3)).hp.get h3.nx:=by
 obtain ⟨_,f1,s1⟩:=k1;have f1:Fac h h1:=(f1 _ (List.mem_singleton.2 rfl)).1;have fp:=xq (o':=SO.loop nt1 Ii ps1 as1 bo1 .busy xv dd1) f1.bd hl1;obtain ⟨_,f2,s2⟩:=k2;have f2:Fac _ h3:=(f2 _ (List.mem_singleton.2 rfl)).1;have f3:=xq (o':=SO.loop nt3 zm ps3 as3 bo3 (sel (exJ e3).isNone .ready .done) (exJ e3) dd3) f2.bd hl3;refine ⟨((f1.trans fp).trans f2).trans f3,fun m g w u us hE hr hnx hu hus=> ?_⟩
 cases hu with
 | @yld _ b o hρ=>
 obtain ⟨hlt,hor⟩:=hr.at hl hρ;obtain ⟨c1,c2,r,q1,q2,q3,q4,q5,q6,q7,o',q8⟩:=hor;obtain ⟨hlen,hfr⟩:=ta hp hus q7;subst q4;subst q5;subst q6;have hsz:us.toArray.size=r.params.size:=by simpa using hlen
 have htm:((r.params.zip us.toArray).foldl (fun tmps (t,a)=>tmps.setIfInBounds t a) r.tmps)=(r.params.toList.zip us).foldl (fun tmps p=>tmps.setIfInBounds p.1 p.2) r.tmps:=by
  rw[<-Array.foldl_toList,Array.toList_zip]
 refine ⟨{target:=.fn (.yield b) #[],args:= #[]++us.toArray},rfl,.inr (.inl ⟨b,r.fn,(r.params.zip us.toArray).foldl (fun tmps (t,a)=>tmps.setIfInBounds t a) r.tmps,r.assign,r.body,?_,?_⟩)⟩
 ·show (Instr.yield b (#[]++us.toArray)).run E.P w=_;rw[Array.empty_append];exact run_yield q1 hsz
 rw[htm];refine roundIn_of_wpIn (F:=Fence.wide) trivial (lr ?_);refine s1 (some b) m g {tmps:=_,defers:= []} w _ c1 (.inr fun o ho=>by obtain rfl:=List.mem_singleton.1 ho;rfl) hE hfr hr .nil hnx (fun o ho g1 a1 w1 x p0 p1 p2 p3 p4 p5 p6=> ?_)
 obtain rfl:=List.mem_singleton.1 ho;cases p0;obtain ⟨r1,t1,t2,t3,t4,t5⟩:=HR.loop p2 hl1 (p3.le.ρ _ _ hρ) .busy xv;subst t3;refine ⟨_,run_beginRound t1 t2,lr ?_⟩;rw[<-DI] at t4 t5;refine s2 (some b) m g1 a1 _ _ c2 (.inr fun o ho=>by obtain rfl:=List.mem_singleton.1 ho;rfl) (hE.mono p3.le) p1 t4 p4 p5 (fun o ho g2 a2 w2 x v0 v1 v2 v3 v4 v5 v6=> ?_)
 obtain rfl:=List.mem_singleton.1 ho;obtain ⟨r2,y1,y2,y3,y4,y5⟩:=HR.loop v2 hl3 (v3.le.ρ _ _ (p3.le.ρ _ _ hρ)) (sel (exJ e3).isNone .ready .done) (exJ e3);rw[<-DI] at y4 y5;have fin:∃v w',(Instr.endRound b (exJ e3)).run E.P w2= .ok v w'/\∃r',Ending.returned v=BP false r'/\∃g',VR g' r' (.bool (exJ e3).isNone)/\HR g' (h3.put l (.loop nt3 zm ps3 as3 bo3 (sel (exJ e3).isNone .ready .done) (exJ e3) dd3)).hp.get w'/\
   Fr g h.hp.get w g' (h3.put l (.loop nt3 zm ps3 as3 bo3 (sel (exJ e3).isNone .ready .done) (exJ e3) dd3)).hp.get w'/\(∀x,x<h.nx->g'.ρ x=g.ρ x)/\∀x,h3.nx<=x->g'.ρ x=none:=by
  refine ⟨_,_,run_endRound _ y1,_,rfl,g2,.bool _,?_,?_,fun x hx=> ?_,v5⟩
  ·rw[aA] at y4 ⊢;exact y4
  ·rw[aA] at y5 ⊢;exact ((p3.trans t5).trans v3).trans y5
  ·rw[v6 x (Nat.lt_of_lt_of_le hx f1.nx),p6 x hx]
 cases v0 with
 |normal=>exact fin
 |ret=>exact fin
 |exit id=>exact fin
 |pan hv=>cases hnp
theorem ke.calls {pan:Bool} {fv:SV} {aa:List SV} {H:Hf} {nx:Nat} {v:SV} {h':Hs} (h:ke E pan fv aa H nx v h'.hp.get h'.nx):kK E fv aa H nx [⟨pan,v,h'⟩]:=
 fun m g w u us hE hr hnx hu hus=>(h m g w u us hE hr hnx hu hus).mono fun e w' ⟨r,q1,g',q2,q3,q4,q5,q6⟩=>⟨_,List.mem_singleton.2 rfl,r,g',q1,q2,q3,q4,q5,q6⟩
theorem LR {fv:SV} {aa:List SV} {h:Hs} {r:Rs} (h1:Bd h->Fac h r.h/\ke E r.pan fv aa h.hp.get h.nx r.v r.h.hp.get r.h.nx):Sound E (.call fv aa h) (.bX [r]):=by
 intro hb;obtain ⟨q1,q2⟩:=h1 hb;refine ⟨by simp,fun r' hr=> ?_,q2.calls⟩
 obtain rfl:=List.mem_singleton.1 hr;exact q1
theorem Kj {r:Out} {k:Ex->Tr SV->List Dm->Hs->Out} {Q:Out->Prop} (hf:∀s,Q (.fail s)) (ht:∀a b c,Q (.qj a b c)) (hr:∀e tm mk h,r= .code e tm mk h->Q (k e tm mk h)):Q (YZ r k):=by
 cases r with
 |aS l=>
  cases l with
  |nil=>exact hf _
  |cons o l=>
   cases l with
   |nil=>exact hr o.e o.tm o.dm o.h rfl
   |cons _ _=>exact hf _
 |fail s=>exact hf _
 |qj a b c=>exact ht _ _ _
 |_=>exact hf _
theorem Nj {rec:Job->Out} (cu:∀j,Sound E j (rec j)) (l:Nat) (aa:List SV) (h:Hs):Sound E (.call (.yld l) aa h) (H7 rec l (h.hp.get l) aa h):=by
 unfold H7;split;rotate_left
 ·trivial
 rename_i nt tm0 ps as' bo st im dd hl;rw[aA];split;rotate_left
 ·trivial
 unfold U9;split
 ·trivial
 rename_i tm1 hp;refine Kj (Q:=Sound E _) (fun _=>trivial) (fun _ _ _=>trivial) (fun e tm2 mk2 h1 he=> ?_)
 have hs1:=cu (.code nt as' tm1 [] h);rw[he] at hs1;rw[aA];split;rotate_left
 ·trivial
 rename_i hn;obtain rfl:=y9 hn;unfold adL;split;rotate_left
 ·trivial
 rename_i nt1 Ii ps1 as1 bo1 st1 xv dd1 hl1;split;rotate_left
 ·trivial
 rw[aA];split;rotate_left
 ·trivial
 rename_i hrd;obtain rfl:=Q4 hrd;unfold JP;refine Kj (Q:=Sound E _) (fun _=>trivial) (fun _ _ _=>trivial) (fun e3 tm3 mk3 h3 he3=> ?_)
 have hs2:=cu (.code nt bo tm2 [] (h1.put l (.loop nt1 Ii ps1 as1 bo1 .busy xv dd1)));rw[he3] at hs2;split;rotate_left
 ·trivial
 rw[aA];split;rotate_left
 ·trivial
 rename_i hnp;unfold finK;split;rotate_left
 ·trivial
 rename_i nt3 zm ps3 as3 bo3 st3 ack dd3 hl3;refine LR (fun hb=> ?_)
 have k1:=hs1 hb;exact Qc hb hl hp k1 hl1 (hs2 (xq (k1.2.1 _ (List.mem_singleton.2 rfl)).1.bd hl1).bd) hnp hl3
def EH (g:Gh) (u:Option SV) (um:FrameMode):Prop:=
 match u with
 |none=>um= .returning
 |some v=>∃x,um= .panicking [{v:=x,recovered:=false}]/\VR g x v
theorem EH.W5 {u:Option SV} {um:FrameMode} (h:EH g u um):um≠ .run:=by
 cases u with
 |none=>rw[show um= .returning from h];simp
 |some v=>obtain ⟨x,h1,_⟩:=h;rw[h1];simp
theorem D9 {o:Oper} (h:oz o=true):∃c,o.op= .call c/\c.callee= .builtin .recover/\o.guard=none:=by
 unfold oz at h;split at h
 ·rename_i c hop hg;split at h
  ·rename_i hc;exact ⟨c,hop,hc,hg⟩
  ·cases h
 ·cases h
theorem tU {n:Nat} {P:Program} {id:Nat} {ops:Array Oper} {Q:Exit->Act->List Frame->World->Prop} {a:Act} {cs cs':List Frame} {w:World} {o:Oper} {v:Value} (ho:ops[0]? =some o) (hrc:oz o=true)
  (hv:recoverD cs=some (v,cs')\/(recoverD cs=none/\v= .nilIface/\cs'=cs)) (h:wpOpsIn (fro none) n P ops (fun e a' w'=>Q e a' cs' w') (List.range' 1 (ops.size-1)) (a.put o.dst v) w):(Code.region id ops false).wpSIn Fence.wide n P Q a cs w:=by
 intro b k hb hro hF nX;obtain ⟨c,hop,iL,hg⟩:=D9 hrc;have hlen:cs'.length=cs.length:=by
  rcases hv with hv|⟨_,_,rfl⟩
  ·exact recoverD_length hv
  ·rfl
 have hsz:0<ops.size:=by
  by_cases h0:0<ops.size
  ·exact h0
  ·rw[Array.getElem?_eq_none (by omega)] at ho;cases ho
 have Lb:List.range ops.size=0::List.range' 1 (ops.size-1):=by
  rw[List.range_eq_range'];have:ops.size=(ops.size-1)+1:=by omega
  rw[this,List.range'_succ];rfl
 have aiI:Region.wanted o (yielded ops a.tmps)=true:=by simp[Region.wanted,hg]
 have h0:(lone (b.atR a (.inRegion ops (0::List.range' 1 (ops.size-1))::k)) cs w).fenced P Fence.wide:=fenced_oper hF nX ho (fun _ _=>trivial)
 have hgo:=stepGR_op (P:=P) (b:=b) (a:=a) (k:=k) (cs:=cs) (w:=w) (rest:=List.range' 1 (ops.size-1)) ho aiI;rw[hro,Oper.semAt_none] at hgo;have Lf:∀v,(b.atR a (.inRegion ops (0::List.range' 1 (ops.size-1))::k)).finish v=b.atR (a.put o.dst v) (.inRegion ops (List.range' 1 (ops.size-1))::k):=by
  intro v;rw[Frame.finish_atR,ho];rfl
 have hr:(execOp a.eval o).run P w= .ok .recover w:=by
  simp[execOp,hop,resolve,iL,invoke,builtin,Sem.run_bind,Sem.run,Result.andThen]
 have hk:(b.atR a (.inRegion ops (0::List.range' 1 (ops.size-1))::k)).kind= .deferred:=hb;have htr:=tryRecover_deferred hk cs;have uz:Go.step P (lone (b.atR a (.inRegion ops (0::List.range' 1 (ops.size-1))::k)) cs w)= .next (lone (b.atR (a.put o.dst v) (.inRegion ops (List.range' 1 (ops.size-1))::k)) cs' w):=by
  refine step_lone_go ?_;rw[hgo,<-Lf];simp only[Frame.atR,hro] at htr ⊢;rcases hv with hv|⟨hv,rfl,rfl⟩
  ·simp[stepG.apply,hr,htr,hv]
  ·simp[stepG.apply,hr,htr,hv]
 obtain ⟨e,a',w',hq,mb⟩:=wp_opsIn (F:=fro none) _ _ _ h b k cs' hro hF (hlen ▸ nX);refine ⟨e,a',cs',w',hlen,hq,.of_steps (.head (fenced_calm (fr:=b.atR a (.code (.region id ops false)::k)) hF nX rfl) stepR_region ?_) mb⟩;rw[Lb];exact .one h0 uz
end
section
variable {E:Env} {g:Gh} {f:Hf} {w:World}
theorem O3 {l:List Dm} (h:Y6 l=true):l= []:=by cases l<;>first|rfl|cases h
theorem Q3 {e:Ex} {x:Exit} (h:qH e=true) (hx:ExR g e x):x= .normal\/x= .ret:=by
 cases hx with
 |normal=>exact .inl rfl
 |ret=>exact .inr rfl
 |exit id=>cases h
 |pan hv=>cases h
theorem JV {u:Option SV} {c0:Frame} {cs:List Frame} (hu:EH g u c0.mode):∃v cs' u',(recoverD (c0::cs)=some (v,cs')\/(recoverD (c0::cs)=none/\v= .nilIface/\cs'=c0::cs))/\VR g v (Qg u)/\cs'={c0 with mode:=u'}::cs/\settle u'= .returning:=by
 cases u with
 |none=>
  have hu:c0.mode= .returning:=hu;refine ⟨.nilIface,c0::cs,.returning,.inr ⟨by simp[recoverD,hu],rfl,rfl⟩,.cN,?_,rfl⟩
  rw[<-hu]
 |some v=>
  obtain ⟨x,h1,h2⟩:=hu;refine ⟨x,{c0 with mode:=.panicking [{v:=x,recovered:=true}]}::cs,.panicking [{v:=x,recovered:=true}],.inl ?_,h2,rfl,?_⟩
  ·simp[recoverD,h1]
  ·simp[settle]
theorem RR (hS:kM E) {rec:Job->Out} (cu:∀j,Sound E j (rec j)) {k:FuncId} {aa:List SV} {u:Option SV} {h:Hs} {kk:Hs->Out} {l:List Rs} (bf:RS E rec (E.fn.get k) aa u h kk= .bX l) (hb:Bd h):
  ∃hs:List Hs,hs≠ []/\(∀h'∈hs,Fac h h'/\∃r',kk h'= .bX r'/\∀x∈r',x∈l)/\(∀x∈l,∃h'∈hs,∃r',kk h'= .bX r'/\x∈r')/\
   ∀(m:Nat) (g:Gh) (w:World) (um:FrameMode) (us:List Value) (R:Ending->FrameMode->World->Prop),bC E g->HR g h.hp.get w->(∀x,h.nx<=x->g.ρ x=none)->EH g u um->VRs g us aa->
    (∀h'∈hs,∀(g':Gh) (w':World) (v:Value) (u':FrameMode),settle u'= .returning->HR g' h'.hp.get w'->Fr g h.hp.get w g' h'.hp.get w'->(∀x,h'.nx<=x->g'.ρ x=none)->(∀x,x<h.nx->g'.ρ x=g.ρ x)->R (.returned v) u' w')->
    (∃args,(callFunc k us.toArray).run E.P w= .ok (.enter k args) w/\CallsDIn Fence.wide m E.P k args um w R):=by
 unfold RS at bf;cases hfn:E.fn.get k with
 |none=>rw[hfn] at bf;cases bf
 |some fn=>
  rw[hfn] at bf;have bf:RT E rec fn aa u h kk fn.body= .bX l:=bf;unfold RT at bf;split at bf;rotate_left
  ·cases bf
  rename_i id ops rest gj;rw[aA] at bf;split at bf;rotate_left
  ·cases bf
  rename_i hlen;have hlen:=(bj _ _).1 hlen;rw[aA] at bf;split at bf
  ·cases bf
  rename_i zT;unfold adG at bf;cases sK:ops.toList with
  |nil=>rw[sK] at bf;cases bf
  |cons o ol=>
   rw[sK] at bf;have bf:sel (oz o && cm fn.ntmps o.dst) (RQ E rec fn rest (rec (.ops fn.ntmps (o::ol) ol (bc (setArgs aa 0 .nil) o.dst (Qg u)) [] h)) kk) (.fail "no recover")= .bX l:=bf;rw[aA] at bf;split at bf;rotate_left
   ·cases bf
   rename_i jW;rw[Bool.and_eq_true] at jW;obtain ⟨hrc,ZP⟩:=jW;unfold RQ at bf;obtain ⟨l1,h1,h2⟩:=nV bf;obtain ⟨n1,q1,q2⟩:=mw h2;have hs1:=cu (.ops fn.ntmps (o::ol) ol (bc (setArgs aa 0 .nil) o.dst (Qg u)) [] h);rw[h1] at hs1;have hsz:ops.size=ol.length+1:=by rw[<-Array.length_toList,sK];simp
   obtain ⟨no1,fo1,so1⟩:=hs1 ops sK (by rw[hsz,sK];simp) hb
   have hokb:codeOk (.seq (.region id ops false) rest)=true:=by
    have hok:=(hS.fn k fn hfn).2;have hok: @Option.rec Code (fun _=>Bool) true codeOk fn.body=true:=hok
    rw[gj] at hok;exact hok
   have way:∀o1∈l1,o1.e= .normal/\o1.dm= []/\∃l2,rec (.code fn.ntmps rest o1.tm [] o1.h)= .aS l2/\dk E fn.ntmps rest o1.tm [] o1.h l2/\
     (∀o2∈l2,qH o2.e=true/\o2.dm= []/\(∃vs,gH E o2.tm.get o2.h.hp.get fn.results.toList=some vs)/\∃r',kk o2.h= .bX r'/\∀x∈r',x∈l):=by
    intro o1 ho1;obtain ⟨r1,e1,e2⟩:=q1 o1 ho1;rw[aA] at e1;split at e1;rotate_left
    ·cases e1
    rename_i hc1;rw[Bool.and_eq_true] at hc1;obtain ⟨l2,e3,e4⟩:=nV e1;obtain ⟨n2,p1,p2⟩:=mw e4;have hs2:=cu (.code fn.ntmps rest o1.tm [] o1.h);rw[e3] at hs2;refine ⟨y9 hc1.1,O3 hc1.2,l2,e3,hs2 (fo1 o1 ho1).1.bd,fun o2 ho2=> ?_⟩
    obtain ⟨r2,e5,e6⟩:=p1 o2 ho2;rw[aA] at e5;split at e5;rotate_left
    ·cases e5
    rename_i hc2;rw[Bool.and_eq_true] at hc2;cases hv:gH E o2.tm.get o2.h.hp.get fn.results.toList with
    |none=>rw[hv] at e5;cases e5
    |some vs=>
     rw[hv] at e5;have e5:kk o2.h= .bX r2:=e5;exact ⟨hc2.1,O3 hc2.2,⟨vs,rfl⟩,r2,e5,fun x hx=>e2 x (e6 x hx)⟩
   have back:∀x∈l,∃o1∈l1,∃l2,rec (.code fn.ntmps rest o1.tm [] o1.h)= .aS l2/\∃o2∈l2,∃r',kk o2.h= .bX r'/\x∈r':=by
    intro x hx;obtain ⟨o1,ho1,r1,e1,e2⟩:=q2 x hx;rw[aA] at e1;split at e1;rotate_left
    ·cases e1
    obtain ⟨l2,e3,e4⟩:=nV e1;obtain ⟨n2,p1,p2⟩:=mw e4;obtain ⟨o2,ho2,r2,e5,e6⟩:=p2 x e2;rw[aA] at e5;split at e5;rotate_left
    ·cases e5
    cases hv:gH E o2.tm.get o2.h.hp.get fn.results.toList with
    |none=>rw[hv] at e5;cases e5
    |some vs=>
     rw[hv] at e5;exact ⟨o1,ho1,l2,e3,o2,ho2,r2,e5,e6⟩
   let hs:List Hs:=l1.flatMap fun o1=>match rec (.code fn.ntmps rest o1.tm [] o1.h) with| .aS l2=>l2.map (·.h)|_=> []
   have jV:∀h',h'∈hs↔∃o1∈l1,∃l2,rec (.code fn.ntmps rest o1.tm [] o1.h)= .aS l2/\∃o2∈l2,o2.h=h':=by
    intro h';simp only[hs,List.mem_flatMap];constructor
    ·rintro ⟨o1,ho1,hx⟩;obtain ⟨_,_,l2,e3,_⟩:=way o1 ho1;rw[e3] at hx;obtain ⟨o2,ho2,rfl⟩:=List.mem_map.1 hx;exact ⟨o1,ho1,l2,e3,o2,ho2,rfl⟩
    ·rintro ⟨o1,ho1,l2,e3,o2,ho2,rfl⟩;refine ⟨o1,ho1,?_⟩;rw[e3];exact List.mem_map.2 ⟨o2,ho2,rfl⟩
   refine ⟨hs,?_,fun h' hh'=> ?_,fun x hx=> ?_,fun m g w um us R hE hr hnx hu hus hR=> ?_⟩
   ·obtain ⟨o1,ho1⟩:=List.exists_mem_of_ne_nil _ no1;obtain ⟨_,_,l2,e3,k2,_⟩:=way o1 ho1;obtain ⟨o2,ho2⟩:=List.exists_mem_of_ne_nil _ k2.1;exact List.ne_nil_of_mem ((jV o2.h).2 ⟨o1,ho1,l2,e3,o2,ho2,rfl⟩)
   ·obtain ⟨o1,ho1,l2,e3,o2,ho2,rfl⟩:=(jV h').1 hh';obtain ⟨_,_,l2',e3',k2,w2⟩:=way o1 ho1;rw[e3] at e3';cases e3';obtain ⟨_,_,_,r',z1,z2⟩:=w2 o2 ho2;exact ⟨(fo1 o1 ho1).1.trans (k2.2.1 o2 ho2).1,r',z1,z2⟩
   ·obtain ⟨o1,ho1,l2,e3,o2,ho2,r',z1,z2⟩:=back x hx;exact ⟨o2.h,(jV _).2 ⟨o1,ho1,l2,e3,o2,ho2,rfl⟩,r',z1,z2⟩
   obtain ⟨hPf,_⟩:=hS.fn k fn hfn;refine ⟨us.toArray,?_,?_⟩
   ·rcases gF hPf (by rw[gj];rfl) us.toArray w with ⟨_,hc⟩|hc
    ·exact absurd (by rw[hc];decide) zT
    ·exact hc
   refine callsDIn_of_wpSIn hPf gj trivial (fun c0 cs hc0=>wpSIn_seq ?_)
   subst hc0;obtain ⟨v,cs',u',hv,hvr,hcs',nA⟩:=JV (cs:=cs) hu;have ho0:ops[0]? =some o:=by
    have:ops.toList[0]? =some o:=by rw[sK];rfl
    simpa using this
   refine tU ho0 hrc hv ?_;have adu:=hus.length;have Lb:List.range' (ops.size-ol.length) ol.length=List.range' 1 (ops.size-1):=by
    have e1:ops.size-ol.length=1:=by omega
    have e2:ops.size-1=ol.length:=by omega
    rw[e1,e2]
   rw[<-Lb];refine so1 none m g (Act.put {tmps:=us.toArray++Array.replicate (fn.ntmps-us.toArray.size) undef,defers:= []} o.dst v) w _ (.inl rfl) hE (by rw[jM];exact (FR.args hus hlen).put ZP hvr) hr (by rw[put_defers];exact .nil) hnx (fun o1 ho1 g1 a1 w1 x p0 p1 p2 p3 p4 p5 p6=> ?_)
   obtain ⟨he1,hd1,l2,e3,k2,w2⟩:=way o1 ho1;rw[he1] at p0;cases p0;rw[hd1] at p4;refine wpSIn_of_wpIn (F:=Fence.wide) rfl (lr (F:=fro none) ?_);refine k2.2.2 none m g1 a1 w1 _ (okR hokb) (.inl rfl) (hE.mono p3.le) p1 p2 p4 p5 (fun o2 ho2 g2 a2 w2' x s0 s1 s2 s3 s4 s5 s6=> ?_)
   obtain ⟨z0,z1,⟨vs,z2⟩,_⟩:=w2 o2 ho2;rw[z1] at s4;obtain ⟨rv,y1,y2⟩:=vL ((hE.mono p3.le).mono s3.le) s2 s1 z2;have hd:a2.defers= []:=by
    generalize a2.defers=d at s4;cases s4;rfl
   have fin:a2.defers= []/\∃u'',cs'={c0 with mode:=u''}::cs/\∃v,(results fn a2.tmps).run E.P w2'= .ok v w2'/\R (.returned v) u'' w2':=
    ⟨hd,u',hcs',rv,y1,hR o2.h ((jV _).2 ⟨o1,ho1,l2,e3,o2,ho2,rfl⟩) g2 w2' rv u' nA s2 (p3.trans s3) s5 (fun y hy=>by rw[s6 y (Nat.lt_of_lt_of_le hy (fo1 o1 ho1).1.nx),p6 y hy])⟩
   rcases Q3 z0 s0 with rfl|rfl
   ·exact fin
   ·exact fin
theorem jz (hS:kM E) {rec:Job->Out} (cu:∀j,Sound E j (rec j)) {fn:Func} {tm:Tr SV}:∀(mk:List Dm) (u:Option SV) (h:Hs) (l:List Rs),jA E rec fn tm mk u h= .bX l->Bd h->l≠ []/\(∀r∈l,Fac h r.h)/\
  ∀(m nt:Nat) (g:Gh) (w:World) (a:Act) (ds:List Deferred) (um:FrameMode) (R:Ending->World->Prop),bC E g->FR g nt tm.get a.tmps->HR g h.hp.get w->Marks g mk ds->EH g u um->(∀x,h.nx<=x->g.ρ x=none)->
   (∀r∈l,∀e w',Cd g h.hp.get w h.nx r e w'->R e w')->LeavesInM Fence.wide m E.P fn a.tmps R ds um w
 | [],u,h,l,bf,hb=>by
  have bf:aae E fn tm u h= .bX l:=bf;unfold aae at bf;cases u with
  |some v=>
   cases (show Out.bX [⟨true,v,h⟩]= .bX l from bf);refine ⟨by simp,fun r hr=> ?_,fun m nt g w a ds um R hE hfr hr hmk hu hnx hk=> ?_⟩
   ·obtain rfl:=List.mem_singleton.1 hr;exact Fac.refl hb
   ·cases hmk;obtain ⟨x,rfl,hx⟩:=hu;exact hk _ (List.mem_singleton.2 rfl) _ _ ⟨x,g,rfl,hx,hr,Fr.refl _ _ _,fun _ _=>rfl,hnx⟩
  |none=>
   have bf: @Option.rec (List SV) (fun _=>Out) (.fail fn.name) (fun vs=>.res (oneOf vs) h) (gH E tm.get h.hp.get fn.results.toList)= .bX l:=bf
   cases hv:gH E tm.get h.hp.get fn.results.toList with
   |none=>rw[hv] at bf;cases bf
   |some vs=>
    rw[hv] at bf;cases (show Out.bX [⟨false,oneOf vs,h⟩]= .bX l from bf);refine ⟨by simp,fun r hr=> ?_,fun m nt g w a ds um R hE hfr hr hmk hu hnx hk=> ?_⟩
    ·obtain rfl:=List.mem_singleton.1 hr;exact Fac.refl hb
    ·cases hmk;have hu:um= .returning:=hu;subst hu;obtain ⟨v,hv1,hv2⟩:=vL hE hr hfr hv;exact ⟨v,hv1,hk _ (List.mem_singleton.2 rfl) _ _ ⟨v,g,rfl,hv2,hr,Fr.refl _ _ _,fun _ _=>rfl,hnx⟩⟩
 | .mark d::mk,u,h,l,bf,hb=>by
  unfold jA at bf;split at bf;rotate_left
  ·cases bf
  rename_i hd;have hg:∀x,(⟨h.hp.set d none,h.nx,d::h.lg⟩:Hs).hp.get x=if x=d then none else h.hp.get x:=fun x=>Tr.da _ _ _ _
  have hb1:Bd ⟨h.hp.set d none,h.nx,d::h.lg⟩:=fun x hx=>by
   rw[hg];split
   ·rfl
   ·exact hb x hx
  have f1:Fac h ⟨h.hp.set d none,h.nx,d::h.lg⟩:=by
   refine ⟨Nat.le_refl _,hb1,fun x hx hn=> ?_,fun x hx=>List.mem_cons_of_mem _ hx,fun x hx hn=> ?_⟩
   ·have hn:x∉d::h.lg:=hn;rw[hg,if_neg (fun e=>hn (by simp[e]))]
   ·rw[hg];split
    ·rfl
    ·exact hn
  obtain ⟨n1,q1,q2⟩:=jz hS cu mk u _ l bf hb1;refine ⟨n1,fun r hr=>f1.trans (q1 r hr),fun m nt g w a ds um R hE hfr hr hmk hu hnx hk=> ?_⟩
  cases hmk with
  | @mark _ _ r o ds' hρ ht=>
  obtain ⟨hlt,hor⟩:=hr.at hd hρ;have hor:w.heap[r]? =some (.deferred (some [])):=hor;refine ⟨hu.W5,.inl ⟨r,_,rfl,run_takeDeferred hor,?_⟩⟩;obtain ⟨s1,s2⟩:=HR.drop hr (w':=w.putObj r (.deferred none)) hd hρ (by simp) (fun k hk=>World.putObj_heap_other hk) rfl rfl rfl
  have e:(h.hp.set d none).get=upF h.hp.get (d,none):=funext fun x=>Tr.da _ _ _ _
  rw[<-e] at s1 s2;refine q2 m nt g _ a _ um R hE hfr s1 ht hu hnx (fun r' hr' e' w' ⟨uu,g',p1,p2,p3,p4,p5,p6⟩=>hk r' hr' e' w' ⟨uu,g',p1,p2,p3,s2.trans p4,p5,p6⟩)
 | .fn k aa ca::mk,u,h,l,bf,hb=>by
  have bf:RS E rec (E.fn.get k) (aa++ca) u h (fun h'=>jA E rec fn tm mk none h')= .bX l:=bf
  obtain ⟨hs,n1,q1,q2,q3⟩:=RR hS cu bf hb;have sub:∀h'∈hs,∃r',jA E rec fn tm mk none h'= .bX r'/\(∀x∈r',x∈l)/\Fac h h':=fun h' hh'=>by
   obtain ⟨f1,r',e1,e2⟩:=q1 h' hh';exact ⟨r',e1,e2,f1⟩
  refine ⟨?_,fun r hr=> ?_,fun m nt g w a ds um R hE hfr hr hmk hu hnx hk=> ?_⟩
  ·obtain ⟨h',hh'⟩:=List.exists_mem_of_ne_nil _ n1;obtain ⟨r',e1,e2,f1⟩:=sub h' hh';obtain ⟨n2,_⟩:=jz hS cu mk none h' r' e1 f1.bd;obtain ⟨x,hx⟩:=List.exists_mem_of_ne_nil _ n2;exact List.ne_nil_of_mem (e2 x hx)
  ·obtain ⟨h',hh',r',e1,e2⟩:=q2 r hr;obtain ⟨f1,_⟩:=q1 h' hh';obtain ⟨_,f2,_⟩:=jz hS cu mk none h' r' e1 f1.bd;exact f1.trans (f2 r e2)
  cases hmk with
  | @fn _ _ _ _ ds' us cs h1 h2 ht=>
  have oS:VRs g (us.toList++cs.toList) (aa++ca):=h1.append h2;obtain ⟨args,eJ,uD⟩:=q3 (m-1) g w um (us.toList++cs.toList) (fun e u' w'=>match e with
    | .returned _=>LeavesInM Fence.wide m E.P fn a.tmps R ds' (settle u') w'
    | .panicked chain=>LeavesInM Fence.wide m E.P fn a.tmps R ds' (raised u' chain) w'
    | .outgrown=>R .outgrown w') hE hr hnx hu oS (fun h' hh' g' w' v u' nA p1 p2 p3 p4=>by
   obtain ⟨r',e1,e2,f1⟩:=sub h' hh';obtain ⟨_,_,s3⟩:=jz hS cu mk none h' r' e1 f1.bd;show LeavesInM Fence.wide m E.P fn a.tmps R ds' (settle u') w';rw[nA];exact s3 m nt g' w' a ds' .returning R (hE.mono p2.le) (hfr.mono p2.le) p1 (ht.mono p2.le) rfl p3 (fun x hx e' w2 ⟨uu,g2,t1,t2,t3,t4,t5,t6⟩=>hk x (e2 x hx) e' w2 ⟨uu,g2,t1,t2,t3,p2.trans t4,fun y hy=>by rw[t5 y (Nat.lt_of_lt_of_le hy f1.nx),p4 y hy],t6⟩))
  refine ⟨hu.W5,.inr ⟨fun hh=>by simp[Fence.wide] at hh,.func k,cs,k,args,rfl,?_,fun _ _=>trivial,?_⟩⟩
  ·have e:us++cs=(us.toList++cs.toList).toArray:=by apply Array.ext';simp
   show (callFunc k (us++cs)).run E.P w=_;rw[e];exact eJ
  ·refine uD.mono (fun e u' w' he=> ?_)
   cases e<;>exact he
end
section
variable {E:Env} {g:Gh} {f:Hf} {w:World}
structure Weak (a j:Rs):Prop where
 pan:j.pan=a.pan
 v:j.v=a.v
 sub:∀x z,j.h.hp.get x=some z->a.h.hp.get x=some z
 nx:a.h.nx<=j.h.nx
theorem Weak.post {a j:Rs} (h:Weak a j) {H:Hf} {nx:Nat} {e:Ending} {w':World} (hp:Cd g H w nx a e w'):Cd g H w nx j e w':=by
 obtain ⟨u,g',h1,h2,h3,h4,h5,h6⟩:=hp;refine ⟨u,g',by rw[h.pan];exact h1,by rw[h.v];exact h2,h3.sub h.sub,⟨h4.os,h4.tape,h4.output,h4.size,h4.le,h4.old,fun b hb ⟨id,o,c,q1,q2⟩=>h4.own b hb ⟨id,o,c,h.sub id o q1,q2⟩⟩,h5,fun x hx=>h6 x (Nat.le_trans h.nx hx)⟩
theorem BU {nx:Nat} {lg:List Nat} {r:Out} {l:List Rs} (h:BV nx lg r= .bX l):∃l',r= .bX l'/\(l'≠ [])/\(∀x∈l',(⟨x.pan,x.v,⟨x.h.hp,x.h.nx,below nx x.h.lg lg⟩⟩:Rs)∈l)/\∀y∈l,∃x∈l',y=⟨x.pan,x.v,⟨x.h.hp,x.h.nx,below nx x.h.lg lg⟩⟩:=by
 obtain ⟨l',h1,h2⟩:=Va h;obtain ⟨n1,q1,q2⟩:=mw h2;have one:∀(x:Rs) r',sel x.pan (Out.pan x.v ⟨x.h.hp,x.h.nx,below nx x.h.lg lg⟩) (.res x.v ⟨x.h.hp,x.h.nx,below nx x.h.lg lg⟩)= .bX r'->r'= [⟨x.pan,x.v,⟨x.h.hp,x.h.nx,below nx x.h.lg lg⟩⟩]:=by
  intro x r' hx;cases hp:x.pan with
  |false=>rw[hp] at hx;cases hx;rfl
  |true=>rw[hp] at hx;cases hx;rfl
 refine ⟨l',h1,n1,fun x hx=> ?_,fun y hy=> ?_⟩
 ·obtain ⟨r',e1,e2⟩:=q1 x hx;rw[one x r' e1] at e2;exact e2 _ (by simp)
 ·obtain ⟨x,hx,r',e1,e2⟩:=q2 y hy;rw[one x r' e1] at e2;exact ⟨x,hx,List.mem_singleton.1 e2⟩
theorem XD (hS:kM E) {rec:Job->Out} (cu:∀j,Sound E j (rec j)) {k:FuncId} {fn:Func} {c:Code} {fi aa ca:List SV} {h:Hs} (hfn:E.fn.get k=some fn) (gj:fn.body=some c) (zT:fn.name≠ "runtime.NumGoroutine") (hlen:(fi++aa++ca).length<=fn.ntmps):
  Sound E (.call (.fn (.func k) fi ca) aa h) (vK E rec fn h.nx h.lg (rec (.code fn.ntmps c (setArgs (fi++aa++ca) 0 .nil) [] ⟨h.hp,h.nx,[]⟩))):=by
 cases bf:vK E rec fn h.nx h.lg (rec (.code fn.ntmps c (setArgs (fi++aa++ca) 0 .nil) [] ⟨h.hp,h.nx,[]⟩)) with
 |bX l=>
  intro hb;unfold vK at bf;obtain ⟨l1,h1,h2⟩:=nV bf;obtain ⟨_,q1,q2⟩:=mw h2;have hs:=cu (.code fn.ntmps c (setArgs (fi++aa++ca) 0 .nil) [] ⟨h.hp,h.nx,[]⟩);rw[h1] at hs;obtain ⟨n1,f1,s1⟩:=hs hb;have way:∀o∈l1,∃u l2,GD o.e=some u/\jA E rec fn o.tm o.dm u o.h= .bX l2/\l2≠ []/\∀x∈l2,(⟨x.pan,x.v,⟨x.h.hp,x.h.nx,below h.nx x.h.lg h.lg⟩⟩:Rs)∈l:=by
   intro o ho;obtain ⟨r',e1,e2⟩:=q1 o ho;cases hu:GD o.e with
   |none=>rw[hu] at e1;cases e1
   |some u=>
    rw[hu] at e1;obtain ⟨l2,e3,e4,e5,_⟩:=BU (show BV h.nx h.lg (jA E rec fn o.tm o.dm u o.h)= .bX r' from e1);exact ⟨u,l2,rfl,e3,e4,fun x hx=>e2 _ (e5 x hx)⟩
  have back:∀y∈l,∃o∈l1,∃u l2,jA E rec fn o.tm o.dm u o.h= .bX l2/\∃x∈l2,y=⟨x.pan,x.v,⟨x.h.hp,x.h.nx,below h.nx x.h.lg h.lg⟩⟩:=by
   intro y hy;obtain ⟨o,ho,r',e1,e2⟩:=q2 y hy;cases hu:GD o.e with
   |none=>rw[hu] at e1;cases e1
   |some u=>
    rw[hu] at e1;obtain ⟨l2,e3,e4,_,e5⟩:=BU (show BV h.nx h.lg (jA E rec fn o.tm o.dm u o.h)= .bX r' from e1);obtain ⟨x,hx,e6⟩:=e5 y e2;exact ⟨o,ho,u,l2,e3,x,hx,e6⟩
  refine ⟨?_,fun y hy=> ?_,fun m g w u us hE hr hnx hu hus=> ?_⟩
  ·obtain ⟨o,ho⟩:=List.exists_mem_of_ne_nil _ n1;obtain ⟨u,l2,_,_,e4,e5⟩:=way o ho;obtain ⟨x,hx⟩:=List.exists_mem_of_ne_nil _ e4;exact List.ne_nil_of_mem (e5 x hx)
  ·obtain ⟨o,ho,u,l2,e3,x,hx,rfl⟩:=back y hy;obtain ⟨_,f2,_⟩:=jz hS cu _ _ _ _ e3 (f1 o ho).1.bd;have f3:=(f1 o ho).1.trans (f2 x hx);refine ⟨f3.nx,f3.bd,fun z hz hn=>f3.lg z hz (fun hc=>hn (ia.2 (.inl ⟨hc,hz⟩))),fun z hz=>ia.2 (.inr hz),f3.dead⟩
  cases hu with
  | @fn _ first dr _ _ hv1 hv2=>
  obtain ⟨hPf,hok⟩:=hS.fn k fn hfn;have gK:VRs g (first.toList++us++dr.toList) (fi++aa++ca):=(hv1.append hus).append hv2
  have mb:first++us.toArray++dr=(first.toList++us++dr.toList).toArray:=by apply Array.ext';simp
  have hokc:codeOk c=true:=by
   have hok: @Option.rec Code (fun _=>Bool) true codeOk fn.body=true:=hok
   rw[gj] at hok;exact hok
  refine ⟨{target:=.fn (.func k) dr,args:=first++us.toArray},rfl,.inl ⟨k,first++us.toArray++dr,?_,?_⟩⟩
  ·show (callFunc k (first++us.toArray++dr)).run E.P w=_
   rcases gF hPf (by rw[gj];rfl) (first++us.toArray++dr) w with ⟨_,hc⟩|hc
   ·exact absurd hc zT
   ·exact hc
  rw[mb];refine callsIn_of_wp_marks (F:=Fence.wide) hPf gj trivial (lr (F:=fro none) ?_);refine s1 none m g {tmps:=_,defers:= []} w _ hokc (.inl rfl) hE (FR.args gK hlen) hr .nil hnx (fun o ho g1 a1 w1 x p0 p1 p2 p3 p4 p5 p6=> ?_)
  obtain ⟨uu,l2,sL,hlv,_,hin⟩:=way o ho;obtain ⟨_,f2,s2⟩:=jz hS cu _ _ _ _ hlv (f1 o ho).1.bd;have fin:∀um,EH g1 uu um->LeavesInM Fence.wide m E.P fn a1.tmps (fun e w'=>∃r∈l,Cd g h.hp.get w h.nx r e w') a1.defers um w1:=by
   intro um hum;refine s2 m _ g1 w1 a1 a1.defers um _ (hE.mono p3.le) p1 p2 p4 hum p5 (fun r hr e w' ⟨z,g',t1,t2,t3,t4,t5,t6⟩=> ?_)
   exact ⟨_,hin r hr,z,g',t1,t2,t3,p3.trans t4,fun y hy=>by rw[t5 y (Nat.lt_of_lt_of_le hy (f1 o ho).1.nx),p6 y hy],t6⟩
  generalize hoe:o.e=e at p0 sL;cases p0 with
  |normal=>cases sL;exact fin .returning rfl
  |ret=>cases sL;exact fin .returning rfl
  |exit id=>cases sL
  | @pan v z hv=>cases sL;exact fin _ ⟨z,rfl,hv⟩
 |_=>trivial
theorem LQ {fv:SV} {aa:List SV} {h:Hs} {v:SV} {h':Hs} (h1:Bd h->Fac h h'/\ke E false fv aa h.hp.get h.nx v h'.hp.get h'.nx):Sound E (.call fv aa h) (.res v h'):=LR (r:=⟨false,v,h'⟩) h1
theorem PU {g:Gh} {h:Hs} {w w':World} (hr:HR g h.hp.get w) (hs:L9 w w'):HR g h.hp.get w'/\Fr g h.hp.get w g h.hp.get w':=
 ⟨hr.grow hs.size hs.heap,⟨hs.os,hs.tape,hs.output,hs.size,.refl _,fun b hb _=>hs.heap b hb,fun b hb hm=>hm⟩⟩
theorem ZW {P:Program} {k:FuncId} (h:GoFn P k) (args:Array Value) (w:World):(callFunc k args).run P w= .ok (.enter k args) w:=by
 obtain ⟨fn,h1,h2,h3⟩:=h;rcases gF h1 h2 args w with ⟨_,hc⟩|hc
 ·exact absurd hc h3
 ·exact hc
theorem Lp {k:FuncId} {l:List SV} {v:SV} (h:jn E k l=some v):l= []:=by
 cases l with
 |nil=>rfl
 |cons a l=>cases h
theorem RP (hS:kM E) {k:FuncId} {fi aa ca:List SV} {h:Hs} {v:SV} (hd:jn E k (fi++aa++ca)=some v):Sound E (.call (.fn (.func k) fi ca) aa h) (.res v h):=by
 refine LQ (fun hb=> ?_)
 have nC:=Lp hd;obtain ⟨hfa,rfl⟩:=List.append_eq_nil_iff.1 nC;obtain ⟨rfl,rfl⟩:=List.append_eq_nil_iff.1 hfa;obtain ⟨hgo,h4⟩:=hS.done k v hd;refine ⟨Fac.refl hb,fun m g w u us hE hr hnx hu hus=> ?_⟩
 cases hu with
 | @fn _ first dr _ _ hv1 hv2=>
 have ef:first= #[]:=by
  generalize hz:first.toList=z at hv1
  cases hv1;simpa using hz
 have ec:dr= #[]:=by
  generalize hz:dr.toList=z at hv2;cases hv2;simpa using hz
 cases hus;subst ef;subst ec;refine ⟨{target:=.fn (.func k) #[],args:= #[]},rfl,.inl ⟨k,#[],ZW hgo #[] w,?_⟩⟩;refine CallsIn.mono (h4 m w) ?_;rintro e w' ⟨r,rfl,hv,hs⟩;obtain ⟨s1,s2⟩:=PU hr hs;exact ⟨r,rfl,g,hv g,s1,s2,fun _ _=>rfl,hnx⟩
section
variable {τ:Nat->Nat} {D:Nat->Prop} [DecidablePred D] {S:List Nat}
end
structure Ma (τ:Nat->Nat) (g g':Gh):Prop where
 η:g'.η=g.η
 sz:g'.sz=g.sz
 ρ:∀id p,g.ρ id=some p->g'.ρ (τ id)=some p
 lim:∀id p,g.ρ id=some p->g'.lim (τ id)=g.lim id
 et:∀id p,g.ρ id=some p->g'.et (τ id)=g.et id
section
variable {τ:Nat->Nat}
mutual
theorem VR.push {g g':Gh} (hp:Ma τ g g'):∀{v x},VR g v x->VR g' v (JT τ x)
 |_,_,.bool b=>.bool b
 |_,_,.int k e h=>.int k e (by rw[hp.η];exact h)
 |_,_,.str s=>.str s
 |_,_,.ptr h=>.ptr (hp.ρ _ _ h)
 |_,_,.cX=>.cX
 |_,_,.sl h hn hc hl=>.sl (hp.ρ _ _ h) hn hc (fun e he=>by rw[hp.sz,hp.et _ _ h,hp.lim _ _ h];exact hl e he)
 |_,_,.sle=>.sle
 |_,_,.aT=>.aT
 |_,_,.mp h=>.mp (hp.ρ _ _ h)
 |_,_,.cY=>.cY
 |_,_,.fn h1 h2=>.fn (h1.push hp) (h2.push hp)
 |_,_,.yld h=>.yld (hp.ρ _ _ h)
 |_,_,.dy=>.dy
 |_,_,.ifc h=>.ifc (h.push hp)
 |_,_,.cN=>.cN
 |_,_,.agg h=>.agg (h.push hp)
 |_,_,.tup h=>.tup (h.push hp)
 |_,_,.undef v=>.undef v
theorem VRs.push {g g':Gh} (hp:Ma τ g g'):∀{v x},VRs g v x->VRs g' v (rF τ x)
 |_,_,.nil=>.nil
 |_,_,.cons h ht=>.cons (h.push hp) (ht.push hp)
theorem VCs.push {g g':Gh} (hp:Ma τ g g'):∀{v x},VCs g v x->VCs g' v (rF τ x)
 |_,_,.nil=>.nil
 |_,_,.cons h1 h ht=>.cons h1 (h.push hp) (ht.push hp)
end
theorem di.push {g g':Gh} (hp:Ma τ g g'):∀{ms:List MapEntry} {xs:List (SV×SV×Nat)},di g ms xs->di g' ms (Qf τ xs)
 |_,_,.nil=>.nil
 |_,_,.cons h ht=>.cons ⟨h.1.push hp,h.2.1.push hp,h.2.2⟩ (ht.push hp)
theorem OR.push {g g':Gh} (hp:Ma τ g g') {w:World} {id b o:Nat} {x:SO} (hρ:g.ρ id=some (b,o)) (h:OR g w id b o x) (hx:agi x=true):OR g' w (τ id) b o (renO τ x):=by
 cases x with
 |cells e cs=>
  obtain ⟨⟨cur,h1,h0,vs,h2,h3⟩,h4⟩:=h;exact ⟨⟨cur,h1,by rw[hp.lim _ _ hρ];exact h0,vs,h2.push hp,h3⟩,(hp.et _ _ hρ).trans h4⟩
 |map es c=>obtain ⟨ms,h1,h2⟩:=h;exact ⟨ms,h1,h2.push hp⟩
 |iN s pos=>cases hx
 |mapIter mp since seen last=>cases hx
 |loop nt tm ps aa bo st pe dd=>cases hx
 |dfr=>cases hx
 |ro cs=>cases hx
end
theorem FH (a b:ByteArray):Lib.compareBytes a.data.toList b.data.toList=qZ a b:=by
 have key:∀(l m:List UInt8),Lib.compareBytes l m=if qg l m=true then -1 else if j5 l m=true then 0 else 1:=by
  intro l;induction l with
  |nil=>intro m;cases m<;>simp[Lib.compareBytes,qg,j5]
  |cons x l ih=>
   intro m;cases m with
   |nil=>simp[Lib.compareBytes,qg,j5]
   |cons y m=>
    unfold Lib.compareBytes qg j5;rw[ih m,aA,aA,ble_eq,beq_eq];have h1:(x<y)↔x.toNat+1<=y.toNat:=by rw[UInt8.lt_iff_toNat_lt];omega
    have h2:(y<x)↔y.toNat<x.toNat:=UInt8.lt_iff_toNat_lt;by_cases hxy:x<y
    ·simp[hxy,h1.1 hxy]
    ·by_cases hyx:y<x
     ·have a1:¬(x.toNat+1<=y.toNat):=fun h=>hxy (h1.2 h)
      have a2:¬(x.toNat=y.toNat):=fun h=>by have:=h2.1 hyx;omega
      simp[hxy,hyx,a1,a2]
     ·have a1:¬(x.toNat+1<=y.toNat):=fun h=>hxy (h1.2 h)
      have a3:¬(y.toNat<x.toNat):=fun h=>hyx (h2.2 h)
      have a2:x.toNat=y.toNat:=by omega
      have a4:¬(y.toNat+1<=y.toNat):=by omega
      simp[hxy,hyx,a2,a4]
 rw[key];unfold qZ;rw[aA,aA]
theorem XG (hS:kM E) {k:FuncId} {fn:Func} {fi aa ca:List SV} {h:Hs} (hfn:E.fn.get k=some fn) (gj:fn.body=none):Sound E (.call (.fn (.func k) fi ca) aa h) (Lq fn (fi++aa++ca) h):=by
 generalize hl:fi++aa++ca=l;unfold Lq;split;rotate_left
 ·trivial
 rename_i x y;split;rotate_left
 ·trivial
 rename_i s1 hs1;split;rotate_left
 ·trivial
 rename_i s2 hs2;obtain rfl:=fE hs1;obtain rfl:=fE hs2;rw[aA];split;rotate_left
 ·trivial
 rename_i BE;refine LQ (fun hb=>⟨Fac.refl hb,fun m g w u us hE hr hnx hu hus=> ?_⟩)
 cases hu with
 | @fn _ first dr _ _ hv1 hv2=>
 have gK:VRs g (first.toList++us++dr.toList) [.str s1,.str s2]:=by rw[<-hl];exact (hv1.append hus).append hv2
 have mb:first++us.toArray++dr=(first.toList++us++dr.toList).toArray:=by apply Array.ext';simp
 obtain ⟨v1,v2,e,h1,h2⟩:=sY gK;rw[e] at mb;cases h1;cases h2;obtain ⟨e1,e2⟩:=hS.ext k fn hfn gj BE;refine ⟨{target:=.fn (.func k) dr,args:=first++us.toArray},rfl,.inr (.inr ⟨.int .i64 (Lib.compareBytes s1.data.toList s2.data.toList),w,?_,_,rfl,g,.int _ _ ?_,hr,Fr.refl _ _ _,fun _ _=>rfl,hnx⟩)⟩
 ·show (callFunc k (first++us.toArray++dr)).run E.P w=_
  rw[mb,run_callFunc_extern (hS.fn k fn hfn).1 (by
   have:fn.name= "internal/bytealg.abigen_runtime_cmpstring" :=by simpa using BE
   rw[this];decide) (by rw[gj];rfl) e1 e2,Lib.run_compareString]
  rfl
 ·rw[FH];rfl
theorem AA (hS:kM E) {rec:Job->Out} (cu:∀j,Sound E j (rec j)) (fv:SV) (aa:List SV) (h:Hs):Sound E (.call fv aa h) (adK fv E rec aa h):=by
 cases fv with
 |yld l=>exact Nj cu l aa h
 |fn f fi ca=>
  cases f with
  |func k=>
   show Sound E _ (@Option.rec SV (fun _=>Out) (wy E rec k (E.fn.get k) (fi++aa++ca) h) (fun v=>.res v h) (jn E k (fi++aa++ca)))
   cases hd:jn E k (fi++aa++ca) with
   |some v=>exact RP hS hd
   |none=>
    show Sound E _ (wy E rec k (E.fn.get k) (fi++aa++ca) h);cases hfn:E.fn.get k with
    |none=>trivial
    |some fn=>
     show Sound E _ (LW E rec k fn (fi++aa++ca) h);unfold LW;cases gj:fn.body with
     |none=>exact XG hS hfn gj
     |some c=>
      show Sound E _ (sel (Nat.ble (fi++aa++ca).length fn.ntmps) (sel (oA fn.name) (.fail "NumGoroutine") (vK E rec fn h.nx h.lg (rec (.code fn.ntmps c (setArgs (fi++aa++ca) 0 .nil) [] ⟨h.hp,h.nx,[]⟩)))) (.fail "args"));rw[aA,aA];split;rotate_left
      ·trivial
      rename_i hlen;split
      ·trivial
      rename_i zT;exact XD hS cu hfn gj (fun hc=>zT (by rw[hc];decide)) ((bj _ _).1 hlen)
  |_=>trivial
 |_=>trivial
theorem vD (hS:kM E):∀(n:Nat) (j:Job),Sound E j (run E n j)
 |0,j=>by cases j<;>trivial
 |n+1,j=>by
  have ih:=vD hS n;show Sound E j (step E (run E n) j);cases j with
  |code nt c tm mk h=>exact Az hS ih nt c tm mk h
  |ops nt all l tm mk h=>exact C4 ih nt all l tm mk h
  |draw nt W all base i M prev l tm h=>exact Ay ih nt W all base i M prev l tm h
  |call fv aa h=>exact AA hS ih fv aa h
end
section
variable {E:Env} {g:Gh} {f:Hf} {w:World}
theorem aag (g:Gh) (w:World):HR g (Tr.nil:Hp).get w:=⟨fun id o h=>(by cases h),fun i j x y b c d h=>(by cases h)⟩
theorem U6 (hS:kM E) {n:Nat} {k:FuncId} {aa:List SV} {v:SV} {h':Hs} (eJ:run E n (.call (.fn (.func k) [] []) aa ⟨.nil,0,[]⟩)= .res v h') (hgo:uE E (.fn (.func k) [] [])=true) (hE:bC E g) (hρ:∀x,g.ρ x=none)
  {us:List Value} (hus:VRs g us aa) (m:Nat) (w:World):CallsIn Fence.wide m E.P k us.toArray w fun e w'=>∃r g',e= .returned r/\VR g' r v/\HR g' h'.hp.get w'/\Fr g (fun _=>none) w g' h'.hp.get w':=by
 have hs:=vD hS n (.call (.fn (.func k) [] []) aa ⟨.nil,0,[]⟩);rw[eJ] at hs;have hb:Bd ⟨.nil,0,[]⟩:=fun x _=>rfl
 obtain ⟨_,_,sem⟩:=(show Bd ⟨.nil,0,[]⟩->_ from hs) hb;obtain ⟨k',fi,ca,fn,e1,hfn,gj⟩:=rZ hgo;cases e1;obtain ⟨d,hd1,hd2⟩:=sem.one m g w (.func (.func k) #[] #[]) us hE (aag g w) (fun x _=>hρ x) (.fn .nil .nil) hus
 have hd:d={target:=.fn (.func k) #[],args:= #[]++us.toArray}:=by
  rw[qz] at hd1;cases hd1;rfl
 subst hd;have py:∀(args:Array Value) (w:World),(invoke (.fn (.func k) #[]) args).run E.P w=(callFunc k (args++ #[])).run E.P w:=fun _ _=>rfl
 rcases gF (hS.fn k fn hfn).1 gj (#[]++us.toArray++ #[]) w with ⟨hc,_⟩|hc
 ·rcases hd2 with ⟨k',as',q1,q2⟩|⟨l,k',t',as',b',q1,_⟩|⟨r,w',q1,_⟩<;>(rw[py,hc] at q1;cases q1)
 ·rcases hd2 with ⟨k',as',q1,q2⟩|⟨l,k',t',as',b',q1,_⟩|⟨r,w',q1,_⟩
  ·rw[py,hc] at q1;cases q1;have e: #[]++us.toArray++ #[]=us.toArray:=by simp
   rw[e] at q2;refine CallsIn.mono q2 ?_;rintro e w' ⟨r,rfl,g',h1,h2,h3,_,_⟩;exact ⟨r,g',rfl,h1,h2,h3⟩
  ·rw[py,hc] at q1;cases q1
  ·rw[py,hc] at q1;cases q1
def gh0 (P:Program) (η:Nat->Int):Gh:=⟨η,P.cellsOf,fun _=>none,fun _=>0,fun _=>0,fun _=>none⟩
theorem Fr.old0 {g g':Gh} {h':Hf} {w w':World} (h:Fr g (fun _=>none) w g' h' w'):∀b,b<w.heap.size->w'.heap[b]? =w.heap[b]? :=
 fun b hb=>h.old b hb (fun ⟨id,o,c,h1,_⟩=>by cases h1)
theorem Fr.still {g g':Gh} {h':Hf} {w w':World} (h:Fr g (fun _=>none) w g' h' w'):L9 w w':=⟨h.os,h.tape,h.output,h.size,h.old0⟩
theorem afg (hS:kM E) (hE:bC E (gh0 E.P fun _=>0)) {n:Nat} {k:FuncId} {b:Bool} {h':Hs} (eJ:run E n (.call (.fn (.func k) [] []) [] ⟨.nil,0,[]⟩)= .res (.bool b) h') (hgo:uE E (.fn (.func k) [] [])=true) (zT:∀fn,E.fn.get k=some fn->oA fn.name=false):Cl E.P k (.bool b):=by
 obtain ⟨k',fi,ca,fn,e1,hfn,gj⟩:=rZ hgo;cases e1;refine ⟨⟨fn,(hS.fn k fn hfn).1,gj,fun hc=>by have:=zT fn hfn;rw[hc] at this;revert this;decide⟩,fun m w=> ?_⟩
 refine CallsIn.mono (U6 hS eJ hgo hE (fun _=>rfl) .nil m w) ?_
 rintro e w' ⟨r,g',rfl,h1,h2,h3⟩;refine ⟨r,rfl,fun g=> ?_,h3.still⟩
 cases h1;exact .bool b
def jZ {α:Type} (Q:Nat->α->Prop):Tr α->(Nat->Nat)->Prop
 | .nil,_=>True
 | .node l v r,φ=>(match v with|none=>True|some x=>Q (φ 0) x)/\jZ Q l (fun j=>φ (2*j+1))/\jZ Q r (fun j=>φ (2*j+2))
theorem jZ.get {α:Type} {Q:Nat->α->Prop}:∀{t:Tr α} {φ:Nat->Nat},jZ Q t φ->∀i x,t.get i=some x->Q (φ i) x
 | .nil,_,_,i,x,h=>by cases h
 | .node l v r,φ,⟨h1,h2,h3⟩,i,x,h=>by
  rw[Tr.qP] at h;split at h
  ·rename_i e;subst e;subst h;exact h1
  ·split at h
   ·rename_i e1 e2;have:=jZ.get h2 _ x h;have e:2*(i / 2)+1=i:=by omega
    simp only[e] at this;exact this
   ·rename_i e1 e2;have:=jZ.get h3 _ x h;have e:2*(i / 2-1)+2=i:=by omega
    simp only[e] at this;exact this
def C1:TypeDesc->UD
 | .bool=>.bool
 | .int k=>.int k
 | .string=>.string
 | .pointer _=>.pointer
 | .slice e=>.slice e
 | .array n e=>.array n e
 | .map k e=>.map k e
 | .struct fs=>.struct (fs.toList.map fun f=>FL.mk f.type f.offset (!(f.name== "_")))
 | .func _ _ _=>.func
 | .interface _=>.interface
 |_=>.other
def Bv (P:Program):List Field->Bool
 | []=>true
 |f::fs=>(P.info? f.type).isSome&&Bv P fs
def aja (P:Program):TypeDesc->Bool
 | .struct fs=>Bv P fs.toList
 | .bool| .int _| .string| .pointer _| .slice _| .array _ _| .map _ _| .func _ _ _| .interface _=>true
 |_=>false
def Ca:List Value->Bool
 | []=>true
 |v::vs=>v.oneCell'&&Ca vs
def KN:Value->Bool
 | .agg _=>true
 |_=>false
def aaO (agg:Bool) (size:Nat) (z:Value):Bool:=Ca z.cells.toList&&sel agg (KN z&&Nat.beq z.cells.toList.length size) z.oneCell'
def PQ (P:Program) (t:TypeId):Option TI:=
 aC (P.underlying t) (P.info? t) fun d f=>ai f.zero fun z=>sel (aja P d&&aaO (eU (C1 d)) f.size z) (some ⟨C1 d,f.size,f.bytes,iA z.cells.toList,f.comparable⟩) none
theorem za {P:Program}:∀{fs:List Field},Bv P fs=true->∀f∈fs,(P.info? f.type).isSome=true
 | [],_,f,hf=>by simp at hf
 |x::fs,h,f,hf=>by
  unfold Bv at h;rw[Bool.and_eq_true] at h;rcases List.mem_cons.1 hf with rfl|hf
  ·exact h.1
  ·exact za h.2 f hf
theorem B9 (g:Gh):∀{vs:List Value},Ca vs=true->VCs g vs (iA vs)
 | [],_=>.nil
 |v::vs,h=>by
  unfold Ca at h;rw[Bool.and_eq_true] at h;exact .cons h.1 (mU g v) (B9 g h.2)
theorem sd:∀(vs:List Value),(iA vs).length=vs.length
 | []=>rfl
 |v::vs=>by show (kT v::iA vs).length=_;simp[sd vs]
theorem TD {P : Program} {t : TypeId} {i : TI} (h : PQ P t = some i) : rp P t i := by
  obtain ⟨d, fi, hd, hf, h⟩ := av h
  obtain ⟨z, hz, h⟩ := ae h
  obtain ⟨hc, h⟩ := ar h
  cases h
  rw [Bool.and_eq_true] at hc
  obtain ⟨hdb, hzb⟩ := hc
  unfold aaO at hzb
  rw [Bool.and_eq_true] at hzb
  obtain ⟨ha, hzb⟩ := hzb
  refine ⟨?_, fi, z, hf, rfl, rfl, rfl, hz, ⟨fun g => B9 g ha, fun qO => ?_, fun qO => ?_⟩, fun qO => ?_⟩
  · show ry P t (C1 d)
    cases d <;> first
      | exact hd
      | exact ⟨_, hd⟩
      | exact ⟨_, _, _, hd⟩
      | (refine ⟨_, hd, ?_, za hdb⟩
         refine List.map_congr_left fun f _ => ?_
         by_cases hn : f.name = "_" <;> simp [hn])
      | (cases hdb; done)
  · have qO : eU (C1 d) = true := qO
    rw [qO] at hzb
    have hzb : (KN z && Nat.beq z.cells.toList.length fi.size) = true := hzb
    rw [Bool.and_eq_true] at hzb
    cases z <;> first | exact ⟨_, rfl⟩ | (cases hzb.1; done)
  · have qO : eU (C1 d) = false := qO
    rw [qO] at hzb
    exact hzb
  · have qO : eU (C1 d) = true := qO
    rw [qO] at hzb
    have hzb : (KN z && Nat.beq z.cells.toList.length fi.size) = true := hzb
    rw [Bool.and_eq_true] at hzb
    show (iA z.cells.toList).length = fi.size
    rw [sd]
    exact (beq_iff _ _).1 hzb.2
end
end Go.Sim
namespace Go.Sim
section
def vP (fn:Func):Bool:=fn.body.isSome|| !(fn.name== "internal/bytealg.abigen_runtime_cmpstring")
def alU (P:Program) (k:Nat) (fn:Func):Prop:=P.funcs[k]? =some fn/\Ro fn=true/\(vP fn=true\/(Extern.findNext fn=none/\Extern.find fn=some Extern.BytealgCompare.compare))
def alS (P:Program) (t:Nat) (i:TI):Prop:=PQ P t=some i
structure xY (P:Program) (ty:Tr TI) (fn:Tr Func):Prop where
 ty:jZ (alS P) ty id
 fn:jZ (alU P) fn id
 mix:P.follows .mixedOrders=true
variable {P:Program} {ty:Tr TI} {fn:Tr Func}
theorem xY.envS (h:xY P ty fn) {lt eq:List (SI×SI×Bool)} {done:List (Nat×SV)} {join:List Nat} {PO:List (Nat×Nat)} {DX:List Nat} {stop:List Nat} (hd:∀k v,r7 k done=some v->Cl P k v):kM ⟨P,ty,fn,lt,eq,done,join,PO,DX,stop⟩:=by
 refine ⟨fun k fn hk=> ?_,fun k fn hk hb hn=> ?_,h.mix,fun k v hk=>hd k v hk⟩
 ·obtain ⟨h1,h2,_⟩:=jZ.get h.fn k fn hk;exact ⟨h1,h2⟩
 ·obtain ⟨_,_,h3⟩:=jZ.get h.fn k fn hk;rcases h3 with h3|h3
  ·unfold vP at h3;rw[hb,hn] at h3;cases h3
  ·exact h3
theorem xY.adB (h:xY P ty fn) {lt eq:List (SI×SI×Bool)} {done:List (Nat×SV)} {join:List Nat} {PO:List (Nat×Nat)} {DX:List Nat} {stop:List Nat} {η:Nat->Int} (hlt:∀a b r,(a,b,r)∈lt->decide (a.ev η<b.ev η)=r) (heq:∀a b r,(a,b,r)∈eq->decide (a.ev η=b.ev η)=r):
  bC ⟨P,ty,fn,lt,eq,done,join,PO,DX,stop⟩ (gh0 P η):=
 ⟨fun t i hi=>TD (jZ.get h.ty t i hi),fun f x hx=>(jZ.get h.fn f x hx).1,hlt,heq,h.mix,fun _=>rfl⟩
def YL (o:Out):Option Bool:=match o with| .bX [⟨false,.bool b,_⟩]=>some b|_=>none
theorem Vb {o:Out} {b:Bool} (h:YL o=some b):∃h',o= .res (.bool b) h':=by
 unfold YL at h;split at h
 ·cases h;exact ⟨_,rfl⟩
 ·cases h
def why (o:Out):String:=match o with| .bX [⟨false,.bool b,_⟩]=>(match b with|true=> "true" |false=> "false")| .bX [_]=> "res" | .bX _=> "ress" | .fail s=>s|_=> "other"
end
end Go.Sim
namespace Go.Sim
open Go.RowKit
structure Still (w w':World):Prop where
 os:w'.os=w.os
 output:w'.output=w.output
 heap:∀b,b<w.heap.size->w'.heap[b]? =w.heap[b]?
theorem Still.kept {w w':World} (h:Still w w') (may:MemPlace->Prop):w.keptBut w' may:=by
 refine ⟨h.os,h.output,fun i hi=> ?_⟩
 rw[h.heap i hi];cases hc:w.heap[i]? with
 |none=>rfl
 |some o=>cases o<;>first|exact ⟨rfl,rfl,rfl,fun _ _=>rfl⟩|exact .inr ⟨rfl,rfl⟩|rfl
end Go.Sim
namespace Go.Sim
def alt {α:Type} (l:List α):Bool->List α:= @List.rec α (fun _=>Bool->List α) (fun _=> []) (fun x _ ih b=>sel b (x::ih false) (ih true)) l
def Ig {α:Type} (d:Nat):List (Option α)->Tr α:= @Nat.rec (fun _=>List (Option α)->Tr α) (fun _=>.nil) (fun _ ih l=> @List.rec (Option α) (fun _=>Tr α) .nil (fun x xs _=>.node (ih (alt xs true)) x (ih (alt xs false))) l) d
theorem xT {α:Type}:∀(l:List α) (j:Nat),(alt l true)[j]? =l[2*j]? /\(alt l false)[j]? =l[2*j+1]?
 | [],j=>⟨by simp[alt],by simp[alt]⟩
 |x::l,j=>by
  have h1:alt (x::l) true=x::alt l false:=rfl;have h2:alt (x::l) false=alt l true:=rfl;rw[h1,h2];constructor
  ·cases j with
   |zero=>rfl
   |succ j=>rw[List.getElem?_cons_succ,(xT l j).2,show 2*(j+1)=(2*j+1)+1 by omega,List.getElem?_cons_succ]
  ·rw[(xT l j).1,List.getElem?_cons_succ]
theorem tW {α:Type} {Q:Nat->α->Prop}:∀(d:Nat) (l:List (Option α)) (φ:Nat->Nat),(∀i x,l[i]? =some (some x)->Q (φ i) x)->jZ Q (Ig d l) φ
 |0,_,_,_=>trivial
 |d+1,[],_,_=>trivial
 |d+1,x::xs,φ,H=>by
  show jZ Q (.node (Ig d (alt xs true)) x (Ig d (alt xs false))) φ;unfold jZ;refine ⟨?_,tW d _ _ fun i y h=> ?_,tW d _ _ fun i y h=> ?_⟩
  ·cases x with
   |none=>trivial
   |some x=>exact H 0 x rfl
  ·rw[(xT xs i).1] at h;exact H (2*i+1) y (by rw[List.getElem?_cons_succ];exact h)
  ·rw[(xT xs i).2] at h;exact H (2*i+2) y (by rw[show 2*i+2=(2*i+1)+1 from rfl,List.getElem?_cons_succ];exact h)
def aaP (P:Program) (n:Nat):Tr TI:=Ig 10 ((List.range n).map (PQ P))
def adx (P:Program):Tr Func:=Ig 10 (P.funcs.toList.map some)
def ahI (e:Nat) (l:List Bool):Bool:= @List.rec Bool (fun _=>Nat->Bool) (fun _=>true) (fun b _ ih k=>sel (b||Nat.beq k e) (ih (k+1)) false) l 0
theorem Cb {e:Nat}:∀(l:List Bool) (k i:Nat),(@List.rec Bool (fun _=>Nat->Bool) (fun _=>true) (fun b _ ih k=>sel (b||Nat.beq k e) (ih (k+1)) false) l k)=true->l[i]? =some false->k+i=e
 | [],k,i,_,h=>by simp at h
 |b::l,k,i,h,hi=>by
  have h:sel (b||Nat.beq k e) (@List.rec Bool (fun _=>Nat->Bool) (fun _=>true) (fun b _ ih k=>sel (b||Nat.beq k e) (ih (k+1)) false) l (k+1)) false=true:=h
  cases i with
  |zero=>
   have:b=false:=by simpa using hi
   subst this;cases hk:Nat.beq k e with
   |true=>exact Nat.eq_of_beq_eq_true hk
   |false=>rw[hk] at h;cases h
  |succ i=>
   cases hb:(b||Nat.beq k e) with
   |false=>rw[hb] at h;cases h
   |true=>
    rw[hb] at h;have:=Cb l (k+1) i h (by simpa using hi)
    omega
theorem afF {P:Program} (n e:Nat) {fe:Func} (h0:(P.funcs.toList.all fun f=>Ro f)=true) (h1:ahI e (P.funcs.toList.map vP)=true) (he:P.funcs[e]? =some fe) (h2:Extern.findNext fe=none) (h3:Extern.find fe=some Extern.BytealgCompare.compare) (hm:P.follows .mixedOrders=true):xY P (aaP P n) (adx P):=by
 refine ⟨tW _ _ _ fun i x h=> ?_,tW _ _ _ fun i x h=> ?_,hm⟩
 ·rw[List.getElem?_map] at h;cases hr:(List.range n)[i]? with
  |none=>rw[hr] at h;cases h
  |some j=>
   rw[hr] at h;have hj:PQ P j=some x:=by simpa using h
   have:=List.getElem?_eq_some_iff.1 hr;obtain ⟨h1,h2⟩:=this;have e:i=j:=by simpa using h2
   subst e;exact hj
 ·rw[List.getElem?_map] at h;cases hr:P.funcs.toList[i]? with
  |none=>rw[hr] at h;cases h
  |some f=>
   rw[hr] at h;have hf:f=x:=by simpa using h
   subst hf;have hm:f∈P.funcs.toList:=List.mem_of_getElem? hr;have hp:P.funcs[i]? =some f:=by simpa using hr
   refine ⟨hp,List.all_eq_true.1 h0 f hm,?_⟩;cases hb:vP f with
   |true=>exact .inl rfl
   |false=>
    have:=Cb (e:=e) (P.funcs.toList.map vP) 0 i h1 (by rw[List.getElem?_map,hr];simp[hb])
    have ei:i=e:=by omega
    subst ei;rw[hp] at he;cases he;exact .inr ⟨h2,h3⟩
section
def bA (E:Env) (j:Job) (o:Out):Prop:=∃n0,∀n,n0<=n->run E n j=o
variable {E:Env} {nt:Nat} {tm tm1 tm2:Tr SV} {h h1 h2:Hs} {o:Out}
theorem bA.step {j:Job} (hs:∃n0,∀n,n0<=n->step E (run E n) j=o):bA E j o:=by
 obtain ⟨n0,hs⟩:=hs;refine ⟨n0+1,fun n hn=> ?_⟩
 obtain ⟨m,rfl⟩:∃m,n=m+1:=⟨n-1,by omega⟩
 exact hs m (by omega)
theorem bA.skip:bA E (.code nt .skip tm [] h) (.code .normal tm [] h):=.step ⟨0,fun _ _=>rfl⟩
theorem bA.exit {id:Nat}:bA E (.code nt (.exit id) tm [] h) (.code (.exit id) tm [] h):=.step ⟨0,fun _ _=>rfl⟩
theorem bA.ret:bA E (.code nt .ret tm [] h) (.code .ret tm [] h):=.step ⟨0,fun _ _=>rfl⟩
theorem bA.seq {a b:Code} (ha:bA E (.code nt a tm [] h) (.code .normal tm1 [] h1)) (hb:bA E (.code nt b tm1 [] h1) o):bA E (.code nt (.seq a b) tm [] h) o:=by
 obtain ⟨n1,e1⟩:=ha;obtain ⟨n2,e2⟩:=hb;refine .step ⟨n1+n2,fun n hn=> ?_⟩
 show sD (run E n (.code nt a tm [] h)) (fun tm' mk' h'=>run E n (.code nt b tm' mk' h'))=o
 rw[e1 n (by omega)]
 exact e2 n (by omega)
theorem bA.agb {a b:Code} {e:Ex} (he:eH e=false) (ha:bA E (.code nt a tm [] h) (.code e tm1 [] h1)):bA E (.code nt (.seq a b) tm [] h) (.code e tm1 [] h1):=by
 obtain ⟨n1,e1⟩:=ha;refine .step ⟨n1,fun n hn=> ?_⟩
 show sD (run E n (.code nt a tm [] h)) (fun tm' mk' h'=>run E n (.code nt b tm' mk' h'))=_
 rw[e1 n hn];cases e<;>first|rfl|(cases he;done)
theorem bA.RX {c:Operand} {a b:Code} (hc:aI tm.get c=some (.bool true)) (ha:bA E (.code nt a tm [] h) o):bA E (.code nt (.cond c a b) tm [] h) o:=by
 obtain ⟨n1,e1⟩:=ha;refine .step ⟨n1,fun n hn=> ?_⟩
 show BX (aI tm.get c) (run E n (.code nt a tm [] h)) (run E n (.code nt b tm [] h))=o;rw[hc];exact e1 n hn
theorem bA.RY {c:Operand} {a b:Code} (hc:aI tm.get c=some (.bool false)) (hb:bA E (.code nt b tm [] h) o):bA E (.code nt (.cond c a b) tm [] h) o:=by
 obtain ⟨n1,e1⟩:=hb;refine .step ⟨n1,fun n hn=> ?_⟩
 show BX (aI tm.get c) (run E n (.code nt a tm [] h)) (run E n (.code nt b tm [] h))=o;rw[hc];exact e1 n hn
theorem bA.block {id:Nat} {c:Code} {e:Ex} (ha:bA E (.code nt c tm [] h) (.code e tm1 [] h1)):bA E (.code nt (.block id c) tm [] h) (.code (leave id e) tm1 [] h1):=by
 obtain ⟨n1,e1⟩:=ha;refine .step ⟨n1,fun n hn=> ?_⟩
 show B2 id (run E n (.code nt c tm [] h))=_;rw[e1 n hn];rfl
theorem bA.loop {c:Code} (ha:bA E (.code nt c tm [] h) (.code .normal tm1 [] h1)) (hb:bA E (.code nt (.loop c) tm1 [] h1) o):bA E (.code nt (.loop c) tm [] h) o:=by
 obtain ⟨n1,e1⟩:=ha;obtain ⟨n2,e2⟩:=hb;refine .step ⟨n1+n2,fun n hn=> ?_⟩
 show sD (run E n (.code nt c tm [] h)) (fun tm' mk' h'=>run E n (.code nt (.loop c) tm' mk' h'))=o
 rw[e1 n (by omega)]
 exact e2 n (by omega)
theorem bA.aeO {c:Code} {e:Ex} (he:eH e=false) (ha:bA E (.code nt c tm [] h) (.code e tm1 [] h1)):bA E (.code nt (.loop c) tm [] h) (.code e tm1 [] h1):=by
 obtain ⟨n1,e1⟩:=ha;refine .step ⟨n1,fun n hn=> ?_⟩
 show sD (run E n (.code nt c tm [] h)) (fun tm' mk' h'=>run E n (.code nt (.loop c) tm' mk' h'))=_
 rw[e1 n hn];cases e<;>first|rfl|(cases he;done)
theorem bA.region {id:Nat} {ops:Array Oper} (ha:bA E (.ops nt ops.toList ops.toList tm [] h) o):bA E (.code nt (.region id ops false) tm [] h) o:=by
 obtain ⟨n1,e1⟩:=ha;exact .step ⟨n1,fun n hn=>e1 n hn⟩
theorem bA.drawn {id:Nat} {ops:Array Oper} (ha:bA E (.draw nt ops.size ops.toList h.nx 0 0 [] ops.toList tm ⟨h.hp,Nat.add h.nx ops.size,h.lg⟩) (.st tm1 h1)):bA E (.code nt (.region id ops true) tm [] h) (.code .normal tm1 [] h1):=by
 obtain ⟨n1,e1⟩:=ha;refine .step ⟨n1,fun n hn=> ?_⟩
 show stK (run E n (.draw nt ops.size ops.toList h.nx 0 0 [] ops.toList tm ⟨h.hp,Nat.add h.nx ops.size,h.lg⟩)) (fun e tm' _ h'=>.code e tm' [] h') (fun tm' h'=>.code .normal tm' [] h')= .code .normal tm1 [] h1
 rw[e1 n hn];rfl
theorem bA.agm {all:List Oper}:bA E (.ops nt all [] tm [] h) (.code .normal tm [] h):=.step ⟨0,fun _ _=>rfl⟩
theorem bA.agl {all l:List Oper} {p:Oper} {v:SV} {us:List Up} (hd:cm nt p.dst=true) (hw:bJ all p tm.get=some true) (hc:dG p.op=none) (hdf:mv p.op=none) (hp:kR p.op=none) (hn:mG p.op=none)
  (hv:opA E p.op tm.get h.hp.get h.nx=some (v,us)) (ha:bA E (.ops nt all l (bc tm p.dst v) [] (h.fin us)) o):bA E (.ops nt all (p::l) tm [] h) o:=by
 obtain ⟨n1,e1⟩:=ha;refine .step ⟨n1,fun n hn'=> ?_⟩
 show sel (cm nt p.dst) (xk E (run E n) nt all l tm [] h p (bJ all p tm.get)) (.fail "slot")=o;rw[hd,hw];show doK E (run E n) nt all l tm [] h p (dG p.op)=o;rw[hc];show Ge E (run E n) nt all l tm [] h p (mv p.op) (kR p.op)=o;rw[hdf,hp];show AQ E (run E n) nt all l tm [] h p (mG p.op)=o;rw[hn];show PE (run E n) nt all l tm [] h p (opA E p.op tm.get h.hp.get h.nx)=o;rw[hv];exact e1 n hn'
theorem bA.aeE {all l:List Oper} {p:Oper} (hd:cm nt p.dst=true) (hw:bJ all p tm.get=some false) (ha:bA E (.ops nt all l (bc tm p.dst (.tup [])) [] h) o):bA E (.ops nt all (p::l) tm [] h) o:=by
 obtain ⟨n1,e1⟩:=ha;refine .step ⟨n1,fun n hn'=> ?_⟩
 show sel (cm nt p.dst) (xk E (run E n) nt all l tm [] h p (bJ all p tm.get)) (.fail "slot")=o;rw[hd,hw];exact e1 n hn'
theorem bA.aeF {all l:List Oper} {p:Oper} {c:Call} {f:SV} {aa:List SV} {v:SV} (hd:cm nt p.dst=true) (hw:bJ all p tm.get=some true) (hc:dG p.op=some c) (hf:fq tm.get c.callee=some f) (has:bE tm.get c.args.toList=some aa)
  (hv:bA E (.call f aa h) (.res v h1)) (ha:bA E (.ops nt all l (bc tm p.dst v) [] h1) o):bA E (.ops nt all (p::l) tm [] h) o:=by
 obtain ⟨n1,e1⟩:=ha;obtain ⟨n2,e2⟩:=hv;refine .step ⟨n1+n2,fun n hn'=> ?_⟩
 show sel (cm nt p.dst) (xk E (run E n) nt all l tm [] h p (bJ all p tm.get)) (.fail "slot")=o;rw[hd,hw];show doK E (run E n) nt all l tm [] h p (dG p.op)=o;rw[hc];show goK (run E n) h (fq tm.get c.callee) (bE tm.get c.args.toList) (jP (run E n) nt all l tm [] p.dst) (fun v h=>.code (.pan v) tm [] h)=o
 rw[hf,has];show DF (run E n (.call f aa h)) (jP (run E n) nt all l tm [] p.dst) (fun v h=>.code (.pan v) tm [] h)=o
 rw[e2 n (by omega)]
 exact e1 n (by omega)
theorem bA.dr {k:Nat} {fi aa ca:List SV} (hc:bA E (.call (.fn (.func k) [] []) (fi++aa++ca) h) o):bA E (.call (.fn (.func k) fi ca) aa h) o:=by
 obtain ⟨n0,hn⟩:=hc;refine .step ⟨n0,fun n hn'=> ?_⟩
 show @Option.rec SV (fun _=>Out) (wy E (run E n) k (E.fn.get k) (fi++aa++ca) h) (fun v=>.res v h) (jn E k (fi++aa++ca))=o
 have q: @Option.rec SV (fun _=>Out) (wy E (run E n) k (E.fn.get k) ([]++(fi++aa++ca)++ []) h) (fun v=>.res v h) (jn E k ([]++(fi++aa++ca)++ []))=o:=hn (n+1) (by omega)
 rw[List.nil_append,List.append_nil] at q;exact q
structure xZ (E:Env) (k:Nat) (fn:Func) (c:Code):Prop where
 get:E.fn.get k=some fn
 body:fn.body=some c
 num:oA fn.name=false
 done:r7 k E.done=none
theorem bA.call {k:Nat} {fn:Func} {c:Code} (hk:xZ E k fn c) {fi aa ca vs:List SV} {e:Ex} (hl:Nat.ble (fi++aa++ca).length fn.ntmps=true) (he:qH e=true)
  (hb:bA E (.code fn.ntmps c (setArgs (fi++aa++ca) 0 .nil) [] ⟨h.hp,h.nx,[]⟩) (.code e tm1 [] h1)) (hr:gH E tm1.get h1.hp.get fn.results.toList=some vs):
  bA E (.call (.fn (.func k) fi ca) aa h) (.res (oneOf vs) ⟨h1.hp,h1.nx,below h.nx h1.lg h.lg⟩):=by
 obtain ⟨n1,e1⟩:=hb;refine .step ⟨n1,fun n hn'=> ?_⟩
 show @Option.rec SV (fun _=>Out) (wy E (run E n) k (E.fn.get k) (fi++aa++ca) h) (fun v=>.res v h) (jn E k (fi++aa++ca))=_
 have ed:jn E k (fi++aa++ca)=none:=by
  generalize fi++aa++ca=l;cases l with
  |nil=>exact hk.done
  |cons _ _=>rfl
 rw[ed];show wy E (run E n) k (E.fn.get k) (fi++aa++ca) h=_;rw[hk.get];show @Option.rec Code (fun _=>Out) (Lq fn (fi++aa++ca) h) (fun c=>sel (Nat.ble (fi++aa++ca).length fn.ntmps) (sel (oA fn.name) (.fail "NumGoroutine") (vK E (run E n) fn h.nx h.lg (run E n (.code fn.ntmps c (setArgs (fi++aa++ca) 0 .nil) [] ⟨h.hp,h.nx,[]⟩)))) (.fail "args")) fn.body=_
 rw[hk.body];show sel (Nat.ble (fi++aa++ca).length fn.ntmps) (sel (oA fn.name) (.fail "NumGoroutine") (vK E (run E n) fn h.nx h.lg (run E n (.code fn.ntmps c (setArgs (fi++aa++ca) 0 .nil) [] ⟨h.hp,h.nx,[]⟩)))) (.fail "args")=_;rw[hl,hk.num];show vK E (run E n) fn h.nx h.lg (run E n (.code fn.ntmps c (setArgs (fi++aa++ca) 0 .nil) [] ⟨h.hp,h.nx,[]⟩))=_;rw[e1 n hn'];have key:jA E (run E n) fn tm1 [] none h1= .res (oneOf vs) h1:=by
  show @Option.rec (List SV) (fun _=>Out) (.fail fn.name) (fun vs=>.res (oneOf vs) h1) (gH E tm1.get h1.hp.get fn.results.toList)=_
  rw[hr]
 cases e<;>first
  |(show BV h.nx h.lg (jA E (run E n) fn tm1 [] none h1)=_;rw[key];rfl)
  |(cases he;done)
theorem bA.done {k:Nat} {v:SV} (hd:r7 k E.done=some v):bA E (.call (.fn (.func k) [] []) [] h) (.res v h):=by
 refine .step ⟨0,fun n _=> ?_⟩
 show @Option.rec SV (fun _=>Out) _ (fun v=>.res v h) (r7 k E.done)=_
 rw[hd]
theorem bA.fuel {j:Job} (hg:bA E j o):∃n,run E n j=o:=by
 obtain ⟨n,hn⟩:=hg;exact ⟨n,hn n (Nat.le_refl _)⟩
end
section
inductive AV where
 |bool (b:Bool)
 |int (k:IntKind) (n:Int)
 |str (s:ByteArray)
 |slice (e:TypeId) (s:Nat) (rows:List (List AV))
 |sln (e:TypeId) (s:Nat) (rows:List (List AV))
 |slf (e:TypeId) (s:Nat) (rows:List (List AV))
 |slx (e:TypeId) (s:Nat) (rows:List (List AV))
 |imm (cs:List AV)
 |aT
 |cX
 |cY
 |dy
 |cN
 |agg (cs:List AV)
 |tup (vs:List AV)
 |fn (f:FuncId) (first dr:List AV)
 |ifc (t:TypeId) (x:AV)
 |loc (K off:Nat)
 |el (K s j f:Nat)
 |ms (K s lo n:Nat)
 |mp (K:Nat)
 |it (K:Nat)
 |undef
 deriving Inhabited
inductive Bx where
 |flat (e:TypeId) (cs:List AV)
 |rows (z:Bool) (e:TypeId) (s:Nat) (Q:List (List AV))
 |map (es:List (AV×AV))
 |iter (s:ByteArray) (pos:Nat)
 |hole (e:TypeId) (s:Nat) (Q:List (List AV)) (i:Nat) (x:AV)
 |own (e e':TypeId) (s:Nat) (Q:List (Option (List (List AV)))) (o:Option (Nat×AV))
 deriving Inhabited
structure Gb where
 ρ:Nat->Nat
 κ:Nat->Cp
 β:Nat->Bool
def Gb.no:Gb:=⟨fun _=>0,fun _=>.k 0,fun _=>false⟩
def oX (e:TypeId) (n:Nat):Cp->Prop
 | .u e'=>e'=e
 | .k m=>n<=m
mutual
inductive VA (F:Hf):Gb->SV->AV->Prop
 |bool {g} (b):VA F g (.bool b) (.bool b)
 |int {g} (k n):VA F g (.int k (.lit n)) (.int k n)
 |str {g} (s):VA F g (.str s) (.str s)
 |iY {g} (e s):VA F g .aT (.slice e s [])
 |slice {g id off n c s rows e e' svs} (hF:cF (F id) off (n*s)=some (e',svs)) (hc:oX e n c) (hn:n=rows.length) (hu:∀r∈rows,r.length=s) (hl:off+n*s<=svs.length) (h:VAs F .no ((svs.drop off).take (n*s)) rows.flatten):VA F g (.sl id off n c) (.slice e s rows)
 |mD {g} (e s):VA F g .aT (.slx e s [])
 |sy {g} (e s):VA F g .sle (.slx e s [])
 |slx {g id off n c s rows e e' svs} (hF:cF (F id) off (n*s)=some (e',svs)) (hc:oX e n c) (hn:n=rows.length) (hu:∀r∈rows,r.length=s) (hl:off+n*s<=svs.length) (h:VAs F .no ((svs.drop off).take (n*s)) rows.flatten):VA F g (.sl id off n c) (.slx e s rows)
 |sA {g} (e s):VA F g .aT (.slf e s [])
 |slf {g id off n s rows e e' svs} (hF:cF (F id) off (n*s)=some (e',svs)) (hn:n=rows.length) (hu:∀r∈rows,r.length=s) (hl:off+n*s<=svs.length) (h:VAs F .no ((svs.drop off).take (n*s)) rows.flatten):VA F g (.sl id off n (.k n)) (.slf e s rows)
 |ni {g} (e s):VA F g .aT (.sln e s [])
 |sln {g id off n c s rows e e' svs} (hF:cF (F id) off (n*s)=some (e',svs)) (hc:oX e n c) (hn:n=rows.length) (hz:rows≠ []) (hu:∀r∈rows,r.length=s) (hl:off+n*s<=svs.length) (h:VAs F .no ((svs.drop off).take (n*s)) rows.flatten):VA F g (.sl id off n c) (.sln e s rows)
 |imm {g id off cs e svs} (hF:cF (F id) off cs.length=some (e,svs)) (hl:off+cs.length<=svs.length) (h:VAs F .no ((svs.drop off).take cs.length) cs):VA F g (.ptr id off) (.imm cs)
 |aT {g}:VA F g .aT .aT
 |cX {g}:VA F g .cX .cX
 |cY {g}:VA F g .cY .cY
 |dy {g}:VA F g .dy .dy
 |cN {g}:VA F g .cN .cN
 |agg {g cs xs} (h:VAs F g cs xs):VA F g (.agg cs) (.agg xs)
 |tup {g cs xs} (h:VAs F g cs xs):VA F g (.tup cs) (.tup xs)
 |fn {g} (f) {a c xs ys} (h1:VAs F g a xs) (h2:VAs F g c ys):VA F g (.fn (.func f) a c) (.fn f xs ys)
 |ifc {g} (t) {v x} (h:VA F g v x):VA F g (.ifc t v) (.ifc t x)
 |loc {g} (K off):VA F g (.ptr (g.ρ K) off) (.loc K off)
 |el {g K} (s j f) (hb:g.β K=true):VA F g (.ptr (g.ρ K) (j*s+f)) (.el K s j f)
 |msN {g K} (s) (hb:g.β K=false):VA F g .aT (.ms K s 0 0)
 |ms {g K} (s lo n) (hb:g.β K=true):VA F g (.sl (g.ρ K) (lo*s) n (kz (g.κ K) lo)) (.ms K s lo n)
 |msE {g K} (s lo) (hl:0<lo):VA F g .sle (.ms K s lo 0)
 |mp {g} (K):VA F g (.mp (g.ρ K)) (.mp K)
 |it {g} (K):VA F g (.ptr (g.ρ K) 0) (.it K)
 |undef {g} (v):VA F g v .undef
inductive VAs (F:Hf):Gb->List SV->List AV->Prop
 |nil {g}:VAs F g [] []
 |cons {g v x vs xs} (h:VA F g v x) (t:VAs F g vs xs):VAs F g (v::vs) (x::xs)
end
def Hle (F F':Hf):Prop:=∀id o,F id=some o->F' id=some o
theorem Hle.refl (F:Hf):Hle F F:=fun _ _ h=>h
theorem Hle.trans {a b c:Hf} (h:Hle a b) (k:Hle b c):Hle a c:=fun id o q=>k id o (h id o q)
theorem ib {F F':Hf} (hF:Hle F F') {id off n:Nat} {p:TypeId×List SV} (q:cF (F id) off n=some p):cF (F' id) off n=some p:=by
 cases hf:F id with
 |none=>rw[hf] at q;cases q
 |some o=>rw[hF id o hf,<-hf];exact q
theorem oF {F:Hf} {id off n:Nat} {p:TypeId×List SV} (q:cF (F id) off n=some p):∃o,F id=some o:=by
 cases hf:F id with
 |none=>rw[hf] at q;cases q
 |some o=>exact ⟨o,rfl⟩
theorem fN {o:Option SO} {off n:Nat} {e:TypeId} {svs:List SV} (h:o=some (.cells e svs)):cF o off n=some (e,svs):=by rw[h];rfl
theorem wO:∀{cs:List SV},(∀(j:Nat) (x:SV),cs[j]? =some x->isU x=false)->lx cs=true
 | [],_=>rfl
 |y::cs,h=>by
  show sel (isU y) false (lx cs)=true;rw[aA,if_neg (by rw[h 0 y rfl];decide)]
  exact wO fun j x hx=>h (j+1) x hx
theorem kU {o:Option SO} {off n zG n':Nat} {p:TypeId×List SV} (h:cF o off n=some p) (h1:off<=zG) (h2:zG+n'<=off+n):cF o zG n'=some p:=by
 cases o with
 |none=>cases h
 |some x=>cases x with
  |ro cs=>
   obtain ⟨hd,hx⟩:=ar (show sel (lx ((cs.drop off).take n)) (some (0,cs)) none=some p from h);show sel (lx ((cs.drop zG).take n')) (some (0,cs)) none=some p;rw[aA,if_pos (wO fun j x hj=> ?_)]
   ·exact hx
   ·rw[List.getElem?_take] at hj;split at hj
    ·rw[List.getElem?_drop] at hj;refine uQ hd (j:=zG-off+j) ?_;rw[List.getElem?_take,if_pos (by omega),List.getElem?_drop,show off+(zG-off+j)=zG+j by omega]
     exact hj
    ·cases hj
  |_=>exact h
variable {F F':Hf} {g g':Gb}
mutual
theorem VA.mono (hF:Hle F F'):∀{g v x},VA F g v x->VA F' g v x
 |_,_,_,.bool b=>.bool b
 |_,_,_,.int k n=>.int k n
 |_,_,_,.str s=>.str s
 |_,_,_,.iY e s=>.iY e s
 |_,_,_,.mD e s=>.mD e s
 |_,_,_,.sy e s=>.sy e s
 |_,_,_,.slx q hc hn hu hl h=>.slx (ib hF q) hc hn hu hl (h.mono hF)
 |_,_,_,.sA e s=>.sA e s
 |_,_,_,.slf q hn hu hl h=>.slf (ib hF q) hn hu hl (h.mono hF)
 |_,_,_,.slice q hc hn hu hl h=>.slice (ib hF q) hc hn hu hl (h.mono hF)
 |_,_,_,.ni e s=>.ni e s
 |_,_,_,.sln q hc hn hz hu hl h=>.sln (ib hF q) hc hn hz hu hl (h.mono hF)
 |_,_,_,.imm q hl h=>.imm (ib hF q) hl (h.mono hF)
 |_,_,_,.aT=>.aT
 |_,_,_,.cX=>.cX
 |_,_,_,.cY=>.cY
 |_,_,_,.dy=>.dy
 |_,_,_,.cN=>.cN
 |_,_,_,.agg h=>.agg (h.mono hF)
 |_,_,_,.tup h=>.tup (h.mono hF)
 |_,_,_,.fn f h1 h2=>.fn f (h1.mono hF) (h2.mono hF)
 |_,_,_,.ifc t h=>.ifc t (h.mono hF)
 |_,_,_,.loc K off=>.loc K off
 |_,_,_,.el s j f hb=>.el s j f hb
 |_,_,_,.msN s hb=>.msN s hb
 |_,_,_,.ms s lo n hb=>.ms s lo n hb
 |_,_,_,.msE s lo hl=>.msE s lo hl
 |_,_,_,.mp K=>.mp K
 |_,_,_,.it K=>.it K
 |_,_,_,.undef v=>.undef v
theorem VAs.mono (hF:Hle F F'):∀{g v x},VAs F g v x->VAs F' g v x
 |_,_,_,.nil=>.nil
 |_,_,_,.cons h t=>.cons (h.mono hF) (t.mono hF)
end
mutual
def bR:AV->List Nat
 | .agg cs=>cM cs
 | .tup vs=>cM vs
 | .fn _ a c=>cM a++cM c
 | .ifc _ x=>bR x
 | .loc K _=> [K]
 | .el K _ _ _=> [K]
 | .ms K _ _ _=> [K]
 | .mp K=> [K]
 | .it K=> [K]
 |_=> []
def cM:List AV->List Nat
 | []=> []
 |x::l=>bR x++cM l
end
theorem VAs.length:∀{vs xs},VAs F g vs xs->vs.length=xs.length
 |_,_,.nil=>rfl
 |_,_,.cons _ t=>by simp[t.length]
theorem VAs.get:∀{vs xs},VAs F g vs xs->∀{j:Nat} {x:AV},xs[j]? =some x->∃v,vs[j]? =some v/\VA F g v x
 |_,_,.nil,_,_,h=>by simp at h
 |_,_,.cons h t,j,x,hx=>by
  cases j with
  |zero=>simp at hx;subst hx;exact ⟨_,rfl,h⟩
  |succ j=>simp at hx;obtain ⟨v,a,b⟩:=t.get hx;exact ⟨v,by simpa using a,b⟩
theorem VAs.append:∀{vs xs ws ys},VAs F g vs xs->VAs F g ws ys->VAs F g (vs++ws) (xs++ys)
 |_,_,_,_,.nil,k=>k
 |_,_,_,_,.cons h t,k=>.cons h (t.append k)
theorem VAs.drop:∀{vs xs} (n:Nat),VAs F g vs xs->VAs F g (vs.drop n) (xs.drop n)
 |_,_,0,h=>h
 |_,_,n+1,.nil=>by simpa using .nil
 |_,_,n+1,.cons _ t=>by simpa using t.drop n
theorem VAs.take:∀{vs xs} (n:Nat),VAs F g vs xs->VAs F g (vs.take n) (xs.take n)
 |_,_,0,_=>by simpa using .nil
 |_,_,n+1,.nil=>by simpa using .nil
 |_,_,n+1,.cons h t=>by simpa using .cons h (t.take n)
theorem VAs.bH {vs xs ws ys} (h:VAs F g vs xs) (k:VAs F g ws ys) (off:Nat):VAs F g (bH vs off ws) (xs.take off++ys++xs.drop (off+ys.length)):=by
 have:=((h.take off).append k).append (h.drop (off+ys.length));show VAs F g (vs.take off++ws++vs.drop (off+ws.length)) _;rw[k.length];exact this
def pO (e:TypeId) (s n:Nat) (len:Nat):Cp->Prop
 | .u e'=>e'=e/\n*s<=len
 | .k m=>n<=m/\len=m*s
theorem xK {e:TypeId} {s n len:Nat} {c:Cp} (hc:pO e s n len c):oX e n c:=by
 cases c with
 |k m=>exact hc.1
 |u e'=>exact hc.1
theorem eN {e:TypeId} {s n len:Nat} {c:Cp} (hc:pO e s n len c):n*s<=len:=by
 cases c with
 |k m=>obtain ⟨c1,c2⟩:=hc;rw[c2];exact Nat.mul_le_mul_right _ c1
 |u e'=>obtain ⟨_,c2⟩:=hc;omega
inductive sV (F h:Hf) (e:TypeId) (s:Nat):SV->Option (List (List AV))->List Nat->Prop
 |any (v):sV F h e s v none []
 |nil:sV F h e s .aT (some []) []
 |sl {id c svs Q} (hh:h id=some (.cells e svs)) (hu:∀r∈Q,r.length=s) (hc:pO e s Q.length svs.length c) (q:VAs F .no (svs.take (Q.length*s)) Q.flatten):sV F h e s (.sl id 0 Q.length c) (some Q) [id]
inductive gT (F h:Hf) (e:TypeId) (s:Nat):List SV->List (Option (List (List AV)))->List (List Nat)->Prop
 |nil:gT F h e s [] [] []
 |cons {v Q f vs Qs fs} (q:sV F h e s v Q f) (t:gT F h e s vs Qs fs):gT F h e s (v::vs) (Q::Qs) (f::fs)
theorem sV.gf {h h':Hf} {e:TypeId} {s:Nat} {v:SV} {Q:Option (List (List AV))} {f:List Nat} (hF:Hle F F') (q:sV F h e s v Q f) (hk:∀i,i∈f->h' i=h i):sV F' h' e s v Q f:=by
 cases q with
 |any v=>exact .any v
 |nil=>exact .nil
 |sl hh hu hc q=>exact .sl ((hk _ (by simp)).trans hh) hu hc (q.mono hF)
theorem gT.gf {h h':Hf} {e:TypeId} {s:Nat} (hF:Hle F F'):∀{vs:List SV} {Qs:List (Option (List (List AV)))} {fs:List (List Nat)},gT F h e s vs Qs fs->(∀i,i∈fs.flatten->h' i=h i)->gT F' h' e s vs Qs fs
 |_,_,_,.nil,_=>.nil
 |_,_,_,.cons q t,hk=>.cons (q.gf hF fun i hi=>hk i (by simp[hi])) (t.gf hF fun i hi=>hk i (by rw[List.flatten_cons];exact List.mem_append_right _ hi))
theorem gT.there {h:Hf} {e:TypeId} {s:Nat}:∀{vs:List SV} {Qs:List (Option (List (List AV)))} {fs:List (List Nat)},gT F h e s vs Qs fs->∀i∈fs.flatten,h i≠none
 |_,_,_,.nil,i,hi=>by cases hi
 |_,_,_,.cons q t,i,hi=>by
  rw[List.flatten_cons] at hi;rcases List.mem_append.1 hi with hi|hi
  ·cases q with
   |any|nil=>cases hi
   |sl hh=>rw[List.mem_singleton.1 hi,hh];simp
  ·exact t.there i hi
inductive cD (F:Hf) (g:Gb) (h:Hf) (K:Nat):Bx->List Nat->Prop
 |flat {e cs svs} (hh:h (g.ρ K)=some (.cells e svs)) (q:VAs F g svs cs):cD F g h K (.flat e cs) [g.ρ K]
 |cI {z e s} (hb:g.β K=false):cD F g h K (.rows z e s []) []
 |rows {z e s Q svs} (hb:g.β K=true) (hh:h (g.ρ K)=some (.cells e svs)) (hz:z=true->Q≠ []) (hu:∀r∈Q,r.length=s) (hc:pO e s Q.length svs.length (g.κ K)) (q:VAs F .no (svs.take (Q.length*s)) Q.flatten):cD F g h K (.rows z e s Q) [g.ρ K]
 |map {es ms c} (hh:h (g.ρ K)=some (.map ms c)) (hk:VAs F .no (ms.map (·.1)) (es.map (·.1))) (hv:VAs F .no (ms.map (·.2.1)) (es.map (·.2))):cD F g h K (.map es) [g.ρ K]
 |iter {s pos} (hh:h (g.ρ K)=some (.iN s pos)):cD F g h K (.iter s pos) [g.ρ K]
 |hole {e s Q i x svs v} (hb:g.β K=true) (hh:h (g.ρ K)=some (.cells e svs)) (hu:∀r∈Q,r.length=s) (hc:pO e s Q.length svs.length (g.κ K)) (q:VAs F .no (svs.take (Q.length*s)) Q.flatten) (hi:i<Q.length*s) (hv:svs[i]? =some v) (hx:VA F g v x):cD F g h K (.hole e s Q i x) [g.ρ K]
 |own {e e' s Q o svs fs} (hb:g.β K=true) (hh:h (g.ρ K)=some (.cells e svs)) (hc:pO e 1 Q.length svs.length (g.κ K)) (q:gT F h e' s (svs.take Q.length) Q fs) (nd:(g.ρ K::fs.flatten).Nodup) (ho:∀i x,o=some (i,x)->Q[i]? =some none/\∃v,svs[i]? =some v/\VA F g v x):cD F g h K (.own e e' s Q o) (g.ρ K::fs.flatten)
 |jN {e e' s} (hb:g.β K=false):cD F g h K (.own e e' s [] none) []
theorem cD.gf {h h':Hf} {K:Nat} {b:Bx} {fp:List Nat} (hF:Hle F F') (q:cD F g h K b fp) (hk:∀i,i∈fp->h' i=h i):cD F' g h' K b fp:=by
 cases q with
 |flat hh q=>exact .flat ((hk _ (by simp)).trans hh) (q.mono hF)
 |cI hb=>exact .cI hb
 |rows hb hh hz hu hc q=>exact .rows hb ((hk _ (by simp)).trans hh) hz hu hc (q.mono hF)
 |map hh q1 q2=>exact .map ((hk _ (by simp)).trans hh) (q1.mono hF) (q2.mono hF)
 |iter hh=>exact .iter ((hk _ (by simp)).trans hh)
 |hole hb hh hu hc q hi hv hx=>exact .hole hb ((hk _ (by simp)).trans hh) hu hc (q.mono hF) hi hv (hx.mono hF)
 |jN hb=>exact .jN hb
 |own hb hh hc q nd ho=>exact .own hb ((hk _ (by simp)).trans hh) hc (q.gf hF fun i hi=>hk i (List.mem_cons_of_mem _ hi)) nd fun i x e=>by obtain ⟨a,v,b,c⟩:=ho i x e;exact ⟨a,v,b,c.mono hF⟩
theorem cD.there {h:Hf} {K:Nat} {b:Bx} {fp:List Nat} (q:cD F g h K b fp):∀i∈fp,h i≠none:=by
 intro i hi;have key:∀{o:SO},h (g.ρ K)=some o->i∈ [g.ρ K]->h i≠none:=fun hh hi=>by rw[List.mem_singleton.1 hi,hh];simp
 cases q with
 |cI hb=>cases hi
 |flat hh q=>exact key hh hi
 |rows hb hh hz hu hc q=>exact key hh hi
 |map hh q1 q2=>exact key hh hi
 |iter hh=>exact key hh hi
 |hole hb hh hu hc q hi' hv hx=>exact key hh hi
 |jN hb=>cases hi
 |own hb hh hc q nd ho=>
  rcases List.mem_cons.1 hi with e|hi
  ·exact key hh (by simp[e])
  ·exact q.there i hi
def gq (g g':Gb) (ks:List Nat):Prop:=∀k∈ks,g'.ρ k=g.ρ k/\g'.κ k=g.κ k/\g'.β k=g.β k
def kL (g g':Gb) (f:Nat->Nat) (ks:List Nat):Prop:=∀k∈ks,g'.ρ (f k)=g.ρ k/\g'.κ (f k)=g.κ k/\g'.β (f k)=g.β k
theorem kL.left {f:Nat->Nat} {a b:List Nat} (h:kL g g' f (a++b)):kL g g' f a:=fun k hk=>h k (List.mem_append_left _ hk)
theorem kL.right {f:Nat->Nat} {a b:List Nat} (h:kL g g' f (a++b)):kL g g' f b:=fun k hk=>h k (List.mem_append_right _ hk)
mutual
def kh (f:Nat->Nat):AV->AV
 | .agg cs=>.agg (iD f cs)
 | .tup vs=>.tup (iD f vs)
 | .fn i a c=>.fn i (iD f a) (iD f c)
 | .ifc t x=>.ifc t (kh f x)
 | .loc K off=>.loc (f K) off
 | .el K s j i=>.el (f K) s j i
 | .ms K s lo n=>.ms (f K) s lo n
 | .mp K=>.mp (f K)
 | .it K=>.it (f K)
 |x=>x
def iD (f:Nat->Nat):List AV->List AV
 | []=> []
 |x::l=>kh f x::iD f l
end
mutual
theorem VA.ren {f:Nat->Nat}:∀{v x},VA F g v x->kL g g' f (bR x)->VA F g' v (kh f x)
 |_,_,.bool b,_=>.bool b
 |_,_,.int k n,_=>.int k n
 |_,_,.str s,_=>.str s
 |_,_,.iY e s,_=>.iY e s
 |_,_,.mD e s,_=>.mD e s
 |_,_,.sy e s,_=>.sy e s
 |_,_,.slx q hc hn hu hl h,_=>.slx q hc hn hu hl h
 |_,_,.sA e s,_=>.sA e s
 |_,_,.slf q hn hu hl h,_=>.slf q hn hu hl h
 |_,_,.slice q hc hn hu hl h,_=>.slice q hc hn hu hl h
 |_,_,.ni e s,_=>.ni e s
 |_,_,.sln q hc hn hz hu hl h,_=>.sln q hc hn hz hu hl h
 |_,_,.imm q hl h,_=>.imm q hl h
 |_,_,.aT,_=>.aT
 |_,_,.cX,_=>.cX
 |_,_,.cY,_=>.cY
 |_,_,.dy,_=>.dy
 |_,_,.cN,_=>.cN
 |_,_,.agg h,k=>.agg (h.ren k)
 |_,_,.tup h,k=>.tup (h.ren k)
 |_,_,.fn i h1 h2,k=>.fn i (h1.ren (kL.left k)) (h2.ren (kL.right k))
 |_,_,.ifc t h,k=>.ifc t (h.ren k)
 |_,_,.loc K off,k=>by
  have:=(k K (by simp[bR])).1
  rw[<-this];exact .loc (f K) off
 |_,_,.el (K:=K) s j i hb,k=>by
  obtain ⟨k1,_,k3⟩:=k K (by simp[bR])
  rw[<-k1];exact .el s j i (k3.trans hb)
 |_,_,.msN (K:=K) s hb,k=>.msN s ((k K (by simp[bR])).2.2.trans hb)
 |_,_,.ms (K:=K) s lo n hb,k=>by
  obtain ⟨k1,k2,k3⟩:=k K (by simp[bR])
  rw[<-k1,<-k2];exact .ms s lo n (k3.trans hb)
 |_,_,.msE s lo hl,_=>.msE s lo hl
 |_,_,.mp K,k=>by
  have:=(k K (by simp[bR])).1
  rw[<-this];exact .mp (f K)
 |_,_,.it K,k=>by
  have:=(k K (by simp[bR])).1
  rw[<-this];exact .it (f K)
 |_,_,.undef v,_=>.undef v
theorem VAs.ren {f:Nat->Nat}:∀{v x},VAs F g v x->kL g g' f (cM x)->VAs F g' v (iD f x)
 |_,_,.nil,_=>.nil
 |_,_,.cons h t,k=>.cons (h.ren (kL.left k)) (t.ren (kL.right k))
end
mutual
theorem th:∀x,kh (fun k=>k) x=x
 | .agg cs=>congrArg AV.agg (lX cs)
 | .tup cs=>congrArg AV.tup (lX cs)
 | .fn i a c=>by show AV.fn i (iD _ a) (iD _ c)=_;rw[lX a,lX c]
 | .ifc t x=>congrArg (AV.ifc t) (th x)
 | .bool _| .int _ _| .str _| .slice _ _ _| .sln _ _ _| .slf _ _ _| .slx _ _ _| .imm _| .aT| .cX| .cY| .dy| .cN| .loc _ _| .el _ _ _ _| .ms _ _ _ _| .mp _| .it _| .undef=>rfl
theorem lX:∀x,iD (fun k=>k) x=x
 | []=>rfl
 |x::l=>by show kh _ x::iD _ l=_;rw[th x,lX l]
end
theorem VA.gb {v x} (h:VA F g v x) (k:gq g g' (bR x)):VA F g' v x:=by
 have:=h.ren (g':=g') (f:=fun k=>k) k
 rwa[th] at this
theorem VAs.gb {v x} (h:VAs F g v x) (k:gq g g' (cM x)):VAs F g' v x:=by
 have:=h.ren (g':=g') (f:=fun k=>k) k
 rwa[lX] at this
def Bx.keys:Bx->List Nat
 | .flat _ cs=>cM cs
 | .hole _ _ _ _ x=>bR x
 | .own _ _ _ _ (some p)=>bR p.2
 |_=> []
def D1 (f:AV->AV):Option (Nat×AV)->Option (Nat×AV)
 |some p=>some (p.1,f p.2)
 |none=>none
theorem ot {f:AV->AV} {o:Option (Nat×AV)} {i:Nat} {y:AV} (h:D1 f o=some (i,y)):∃x,o=some (i,x)/\y=f x:=by
 cases o with
 |none=>cases h
 |some p=>cases h;exact ⟨p.2,rfl,rfl⟩
def Bx.ren (f:Nat->Nat):Bx->Bx
 | .flat e cs=>.flat e (iD f cs)
 | .hole e s Q i x=>.hole e s Q i (kh f x)
 | .own e e' s Q o=>.own e e' s Q (D1 (kh f) o)
 |b=>b
theorem cD.ren {h:Hf} {K:Nat} {b:Bx} {fp:List Nat} {f:Nat->Nat} (q:cD F g h K b fp) (hK:kL g g' f [K]) (hk:kL g g' f b.keys):cD F g' h (f K) (b.ren f) fp:=by
 obtain ⟨k1,k2,k3⟩:=hK K (by simp)
 cases q with
 |flat hh q=>rw[<-k1] at hh ⊢;exact .flat hh (q.ren hk)
 |cI hb=>exact .cI (k3.trans hb)
 |rows hb hh hz hu hc q=>rw[<-k1] at hh ⊢;rw[<-k2] at hc;exact .rows (k3.trans hb) hh hz hu hc q
 |map hh q1 q2=>rw[<-k1] at hh ⊢;exact .map hh q1 q2
 |iter hh=>rw[<-k1] at hh ⊢;exact .iter hh
 |hole hb hh hu hc q hi hv hx=>rw[<-k1] at hh ⊢;rw[<-k2] at hc;exact .hole (k3.trans hb) hh hu hc q hi hv (hx.ren hk)
 |jN hb=>exact .jN (k3.trans hb)
 |own hb hh hc q nd ho=>
  rw[<-k1] at hh nd ⊢;rw[<-k2] at hc;refine .own (k3.trans hb) hh hc q nd fun i x e=> ?_
  obtain ⟨y,e1,rfl⟩:=ot e;subst e1;obtain ⟨a,v,b,c⟩:=ho i y rfl;exact ⟨a,v,b,c.ren hk⟩
theorem Bx.agf:∀b:Bx,b.ren (fun k=>k)=b
 | .flat e cs=>congrArg (Bx.flat e) (lX cs)
 | .hole e s Q i x=>congrArg (Bx.hole e s Q i) (th x)
 | .own e e' s Q none=>rfl
 | .own e e' s Q (some p)=>by show Bx.own e e' s Q (some (p.1,kh _ p.2))=_;rw[th p.2]
 | .rows _ _ _ _| .map _| .iter _ _=>rfl
theorem cD.gb {h:Hf} {K:Nat} {b:Bx} {fp:List Nat} (q:cD F g h K b fp) (hK:gq g g' [K]) (hk:gq g g' b.keys):cD F g' h K b fp:=by
 have:=q.ren (g':=g') (f:=fun k=>k) hK hk
 rwa[Bx.agf] at this
end
section
variable {F F':Hf} {g g':Gb}
structure LS where
 ts:List (Nat×AV)
 bs:List (Nat×Bx)
def lk {α:Type} (t:Nat) (l:List (Nat×α)):Option α:=List.rec none (fun p _ ih=>sel (Nat.beq t p.1) (some p.2) ih) l
theorem bh {α:Type} (t k:Nat) (x:α) (l:List (Nat×α)):lk t ((k,x)::l)=if t=k then some x else lk t l:=by
 show sel (Nat.beq t k) (some x) (lk t l)=_;rw[aA];by_cases h:t=k
 ·rw[if_pos h,if_pos ((beq_iff _ _).2 h)]
 ·rw[if_neg h,if_neg (fun e=>h ((beq_iff _ _).1 e))]
theorem iu {α β:Type} (f:α->β) (t:Nat):∀l:List (Nat×α),lk t (l.map fun p=>(p.1,f p.2))=(lk t l).map f
 | []=>rfl
 |(k,x)::l=>by
  rw[List.map_cons,bh,bh,iu f t l];split<;>rfl
theorem ou {α:Type} {t:Nat} {x:α}:∀{l:List (Nat×α)},lk t l=some x->(t,x)∈l
 | [],h=>by cases h
 |(k,y)::l,h=>by
  rw[bh] at h;split at h
  ·rename_i e;cases h;rw[e];exact List.mem_cons_self
  ·exact List.mem_cons_of_mem _ (ou h)
structure Bs where
 hp:Hf
 F:Hf
 g:Gb
 nx:Nat
 pk:Nat->Bool
 φ:Nat->List Nat
def Bs.ps (B:Bs) (k i:Nat):Prop:=B.pk k=true/\i∈B.φ k
structure Rel (B:Bs) (F:Hf) (g:Gb) (φ:Nat->List Nat) (s:LS) (tm:Tf) (h:Hs):Prop where
 tm:∀t x,lk t s.ts=some x->x≠ .undef->∃v,tm t=some v/\VA F g v x
 bx:∀k b,lk k s.bs=some b->cD F g h.hp.get k b (φ k)
 dj:∀k k' b b',lk k s.bs=some b->lk k' s.bs=some b'->k≠k'->∀i∈φ k,i∉φ k'
 nf:∀k b,lk k s.bs=some b->∀i∈φ k,F i=none
 sub:Hle F h.hp.get
 bd:∀x,h.nx<=x->h.hp.get x=none
 nx:B.nx<=h.nx
 old:∀x,x<B.nx->(∀k,¬B.ps k x)->h.hp.get x=B.hp x
 f0:Hle B.F F
 fn:∀id o,F id=some o->B.F id=some o\/B.nx<=id
 g7:∀k b,lk k s.bs=some b->∀i∈φ k,B.ps k i\/B.nx<=i
 lg:∀x∈h.lg,(∃k,B.ps k x)\/B.nx<=x
 pin:∀k,B.pk k=true->gq B.g g [k]
variable {B:Bs} {φ:Nat->List Nat} {s s':LS} {tm:Tf} {h:Hs}
def LS.put (s:LS) (d:Nat) (x:AV):LS:=⟨(d,x)::s.ts,s.bs⟩
theorem Rel.put (r:Rel B F g φ s tm h) {d:Nat} {v:SV} {x:AV} {tm':Tf} (ht:∀t,tm' t=if t=d then some v else tm t) (hv:x≠ .undef->VA F g v x):Rel B F g φ (s.put d x) tm' h:=by
 refine {r with tm:=fun t y hy hn=> ?_}
 rw[show (s.put d x).ts=(d,x)::s.ts from rfl,bh] at hy;rw[ht];split at hy
 ·rename_i e;cases hy;exact ⟨v,by rw[if_pos e],hv hn⟩
 ·rename_i e;rw[if_neg e];exact r.tm t y hy hn
theorem Rel.hlt (r:Rel B F g φ s tm h) {i:Nat} (hi:h.hp.get i≠none):i<h.nx:=by
 by_cases hx:i<h.nx
 ·exact hx
 ·exact absurd (r.bd i (by omega)) hi
theorem Rel.lt (r:Rel B F g φ s tm h) {k:Nat} {b:Bx} (hb:lk k s.bs=some b):∀i∈φ k,i<h.nx:=fun i hi=>r.hlt ((r.bx k b hb).there i hi)
theorem Rel.flt (r:Rel B F g φ s tm h) {i:Nat} {o:SO} (hf:F i=some o):i<h.nx:=r.hlt (by rw[r.sub i o hf];simp)
def WV (x y:AV):Prop:=y= .undef\/∀(F:Hf) (g:Gb) (v:SV),VA F g v x->VA F g v y
theorem WV.refl (x:AV):WV x x:=.inr fun _ _ _ h=>h
def WB (b b':Bx):Prop:=∀(F:Hf) (g:Gb) (h:Hf) (K:Nat) (fp:List Nat),cD F g h K b fp->cD F g h K b' fp
theorem WB.refl (b:Bx):WB b b:=fun _ _ _ _ _ h=>h
def lp (s s':LS):Prop:=(∀t y,lk t s'.ts=some y->y= .undef\/∃x,lk t s.ts=some x/\WV x y)/\∀k b',lk k s'.bs=some b'->∃b,lk k s.bs=some b/\WB b b'
theorem Rel.less (r:Rel B F g φ s tm h) (hw:lp s s'):Rel B F g φ s' tm h:=by
 obtain ⟨h1,h2⟩:=hw;refine {r with tm:=fun t y hy hn=> ?_,bx:=fun k b hb=> ?_,dj:=fun k k' b b' hb hb'=> ?_,nf:=fun k b hb=> ?_,g7:=fun k b hb=> ?_}
 ·rcases h1 t y hy with e|⟨x,hx,e|hw⟩
  ·exact absurd e hn
  ·exact absurd e hn
  ·by_cases hu:x= .undef
   ·subst hu;exact absurd (hw F .no (.bool true) (.undef _)) (by
     intro h4;have h1:=hw F g .aT (.undef _);cases y<;>first|exact hn rfl|(cases h1;done)|(cases h4;done))
   ·obtain ⟨v,v1,v2⟩:=r.tm t x hx hu;exact ⟨v,v1,hw F g v v2⟩
 ·obtain ⟨b0,hb0,w⟩:=h2 k b hb;exact w _ _ _ _ _ (r.bx k b0 hb0)
 ·obtain ⟨c,hc,_⟩:=h2 k b hb;obtain ⟨c',hc',_⟩:=h2 k' b' hb';exact r.dj k k' c c' hc hc'
 ·obtain ⟨b0,hb0,_⟩:=h2 k b hb;exact r.nf k b0 hb0
 ·obtain ⟨b0,hb0,_⟩:=h2 k b hb;exact r.g7 k b0 hb0
def LS.free (s:LS) (K:Nat):Prop:=(∀t x,lk t s.ts=some x->K∉bR x)/\∀k b,k≠K->lk k s.bs=some b->K∉b.keys
def LS.set (s:LS) (K:Nat) (b:Bx):LS:=⟨s.ts,(K,b)::s.bs⟩
theorem Rel.chg (r:Rel B F g φ s tm h) {K:Nat} {b':Bx} {fo fp:List Nat} {h':Hs} (hfo:∀i∈fo,∃b,lk K s.bs=some b/\i∈φ K) (hfp:∀i∈fp,i∈fo\/(h.hp.get i=none/\B.nx<=i))
  (hh:∀x,x∉fo->x∉fp->h'.hp.get x=h.hp.get x) (hnx:h.nx<=h'.nx) (hbd:∀x,h'.nx<=x->h'.hp.get x=none) (hlg:∀x∈h'.lg,x∈h.lg\/x∈fo\/x∈fp) (hb':cD F g' h'.hp.get K b' fp)
  (hg:g'=g\/(s.free K/\B.pk K=false/\∀k,k≠K->gq g g' [k])):Rel B F g' (fun k=>if k=K then fp else φ k) (s.set K b') tm h':=by
 have nfo:∀i∈fo,F i=none:=fun i hi=>by obtain ⟨b,hb,hi⟩:=hfo i hi;exact r.nf K b hb i hi
 have nfp:∀i∈fp,F i=none:=fun i hi=>(hfp i hi).elim (nfo i) fun hx=>by
  cases hf:F i with
  |none=>rfl
  |some o=>rw[r.sub i o hf] at hx;cases hx.1
 have mfo:∀i∈fo,B.ps K i\/B.nx<=i:=fun i hi=>by obtain ⟨b,hb,hi⟩:=hfo i hi;exact r.g7 K b hb i hi
 have mfp:∀i∈fp,B.ps K i\/B.nx<=i:=fun i hi=>(hfp i hi).elim (mfo i) fun hx=>.inr hx.2
 have dfo:∀k b,k≠K->lk k s.bs=some b->∀i∈φ k,i∉fo:=fun k b hne hb i hi hc=>by
  obtain ⟨b2,hb2,hi2⟩:=hfo i hc;exact r.dj k K b b2 hb hb2 hne i hi hi2
 have dfp:∀k b,k≠K->lk k s.bs=some b->∀i∈φ k,i∉fp:=fun k b hne hb i hi hc=>(hfp i hc).elim (dfo k b hne hb i hi) fun hx=>(r.bx k b hb).there i hi hx.1
 have lkb:∀{k b1},lk k (s.set K b').bs=some b1->(k=K/\b1=b')\/(k≠K/\lk k s.bs=some b1):=fun {k b1} hk=>by
  rw[show (s.set K b').bs=(K,b')::s.bs from rfl,bh] at hk;split at hk
  ·cases hk;exact .inl ⟨by assumption,rfl⟩
  ·exact .inr ⟨by assumption,hk⟩
 have gs:∀ks:List Nat,(s.free K->K∉ks)->gq g g' ks:=fun ks hk k hks=>by
  rcases hg with rfl|⟨h1,_,h2⟩
  ·exact ⟨rfl,rfl,rfl⟩
  ·exact h2 k (fun e=>hk h1 (e ▸ hks)) k (by simp)
 refine ⟨fun t x hx hn=> ?_,fun k b hb=> ?_,fun k k' b b2 hb hb2 hne i hi=> ?_,fun k b hb i hi=> ?_,fun i o ho=> ?_,hbd,Nat.le_trans r.nx hnx,fun x hx hp=> ?_,r.f0,r.fn,fun k b hb i hi=> ?_,fun x hx=> ?_,fun k hk=> ?_⟩
 ·obtain ⟨v,v1,v2⟩:=r.tm t x hx hn;exact ⟨v,v1,v2.gb (gs _ fun hf=>hf.1 t x hx)⟩
 ·rcases lkb hb with ⟨rfl,rfl⟩|⟨hne,hb⟩
  ·rw[if_pos rfl];exact hb'
  ·rw[if_neg hne];refine cD.gf (Hle.refl F) ((r.bx k b hb).gb (gs _ fun _=>by simpa using Ne.symm hne) (gs _ fun hf=>hf.2 k b hne hb)) fun i hi=>hh i (dfo k b hne hb i hi) (dfp k b hne hb i hi)
 ·rcases lkb hb with ⟨e1,_⟩|⟨n1,c1⟩<;>rcases lkb hb2 with ⟨e2,_⟩|⟨n2,c2⟩
  ·exact absurd (e1.trans e2.symm) hne
  ·rw[if_pos e1] at hi;rw[if_neg n2];exact fun hc=>dfp k' b2 n2 c2 i hc hi
  ·rw[if_neg n1] at hi;rw[if_pos e2];exact dfp k b n1 c1 i hi
  ·rw[if_neg n1] at hi;rw[if_neg n2];exact r.dj k k' b b2 c1 c2 hne i hi
 ·rcases lkb hb with ⟨rfl,rfl⟩|⟨n1,hb⟩
  ·rw[if_pos rfl] at hi;exact nfp i hi
  ·rw[if_neg n1] at hi;exact r.nf k b hb i hi
 ·rw[hh i (fun hc=>by rw[nfo i hc] at ho;cases ho) (fun hc=>by rw[nfp i hc] at ho;cases ho)]
  exact r.sub i o ho
 ·rw[hh x (fun hc=>(mfo x hc).elim (hp K) (by omega)) (fun hc=>(mfp x hc).elim (hp K) (by omega))]
  exact r.old x hx hp
 ·rcases lkb hb with ⟨rfl,rfl⟩|⟨n1,hb⟩
  ·rw[if_pos rfl] at hi;exact mfp i hi
  ·rw[if_neg n1] at hi;exact r.g7 k b hb i hi
 ·rcases hlg x hx with hx|hx|hx
  ·exact r.lg x hx
  ·exact (mfo x hx).elim (fun hp=>.inl ⟨K,hp⟩) .inr
  ·exact (mfp x hx).elim (fun hp=>.inl ⟨K,hp⟩) .inr
 ·rcases hg with rfl|⟨_,h1,h2⟩
  ·exact r.pin k hk
  ·have hne:k≠K:=fun e=>by rw[e,h1] at hk;cases hk
   intro j hj;obtain ⟨a1,a2,a3⟩:=r.pin k hk j hj;have ej:j=k:=by simpa using hj
   obtain ⟨c1,c2,c3⟩:=h2 k hne j hj;exact ⟨c1.trans a1,c2.trans a2,c3.trans a3⟩
end
section
variable {F F':Hf} {g g':Gb} {B:Bs} {φ:Nat->List Nat} {s s':LS} {tm:Tf} {h:Hs} {hp:Hf}
mutual
def uF (K:Nat) (D:AV) (L:Nat->AV):AV->AV
 | .ms k s lo n=>sel (Nat.beq k K) (sel (Nat.beq lo 0) D .undef) (.ms k s lo n)
 | .loc k off=>sel (Nat.beq k K) (L off) (.loc k off)
 | .el k s j f=>sel (Nat.beq k K) .undef (.el k s j f)
 | .mp k=>sel (Nat.beq k K) .undef (.mp k)
 | .it k=>sel (Nat.beq k K) .undef (.it k)
 | .agg cs=>.agg (kr K D L cs)
 | .tup cs=>.tup (kr K D L cs)
 | .fn i a c=>.fn i (kr K D L a) (kr K D L c)
 | .ifc t x=>.ifc t (uF K D L x)
 |x=>x
def kr (K:Nat) (D:AV) (L:Nat->AV):List AV->List AV
 | []=> []
 |x::l=>uF K D L x::kr K D L l
end
mutual
def zI (K:Nat):AV->List (Nat×Nat)
 | .ms k s lo n=>sel (Nat.beq k K) (sel (Nat.beq lo 0) [(s,n)] []) []
 | .agg cs=>lI K cs
 | .tup cs=>lI K cs
 | .fn _ a c=>lI K a++lI K c
 | .ifc _ x=>zI K x
 |_=> []
def lI (K:Nat):List AV->List (Nat×Nat)
 | []=> []
 |x::l=>zI K x++lI K l
end
structure EJ (F F':Hf) (g:Gb) (K:Nat) (D:AV) (L:Nat->AV) (s m:Nat):Prop where
 le:Hle F F'
 ms:∀v,VA F g v (.ms K s 0 m)->VA F' g v D
 loc:∀v off,VA F g v (.loc K off)->VA F' g v (L off)
mutual
theorem VA.frz {K:Nat} {D:AV} {L:Nat->AV} {s m:Nat} (z:EJ F F' g K D L s m):∀{x:AV} {v:SV},VA F g v x->(∀q∈zI K x,q=(s,m))->VA F' g v (uF K D L x)
 | .ms k s' lo n,v,hv,ho=>by
  show VA F' g v (sel (Nat.beq k K) (sel (Nat.beq lo 0) D .undef) (.ms k s' lo n));rw[aA,aA];split
  ·rename_i e;obtain rfl:=(beq_iff _ _).1 e;split
   ·rename_i e;obtain rfl:=(beq_iff _ _).1 e;have:=ho (s',n) (by
     show (s',n)∈sel (Nat.beq k k) (sel (Nat.beq 0 0) [(s',n)] []) [];rw[show Nat.beq k k=true from (beq_iff _ _).2 rfl];exact List.mem_singleton.2 rfl)
    cases this;exact z.ms v hv
   ·exact .undef v
  ·exact hv.mono z.le
 | .loc k off,v,hv,_=>by
  show VA F' g v (sel (Nat.beq k K) (L off) (.loc k off));rw[aA];split
  ·rename_i e;obtain rfl:=(beq_iff _ _).1 e;exact z.loc v off hv
  ·exact hv.mono z.le
 | .el k _ _ _,v,hv,_=>by
  show VA F' g v (sel (Nat.beq k K) .undef (.el k _ _ _));rw[aA];split
  ·exact .undef v
  ·exact hv.mono z.le
 | .mp k,v,hv,_=>by
  show VA F' g v (sel (Nat.beq k K) .undef (.mp k));rw[aA];split
  ·exact .undef v
  ·exact hv.mono z.le
 | .it k,v,hv,_=>by
  show VA F' g v (sel (Nat.beq k K) .undef (.it k));rw[aA];split
  ·exact .undef v
  ·exact hv.mono z.le
 | .agg cs,_,hv,ho=>by cases hv with|agg h=>exact .agg (VAs.frz z h ho)
 | .tup cs,_,hv,ho=>by cases hv with|tup h=>exact .tup (VAs.frz z h ho)
 | .fn i a c,_,hv,ho=>by
  cases hv with|fn _ h1 h2=>
   exact .fn i (VAs.frz z h1 fun q hq=>ho q (List.mem_append_left _ hq)) (VAs.frz z h2 fun q hq=>ho q (List.mem_append_right _ hq))
 | .ifc t x,_,hv,ho=>by cases hv with|ifc _ h=>exact .ifc t (VA.frz z h ho)
 | .bool _,_,hv,_| .int _ _,_,hv,_| .str _,_,hv,_| .slice _ _ _,_,hv,_| .sln _ _ _,_,hv,_| .slf _ _ _,_,hv,_| .slx _ _ _,_,hv,_| .imm _,_,hv,_| .aT,_,hv,_| .cX,_,hv,_| .cY,_,hv,_| .dy,_,hv,_| .cN,_,hv,_| .undef,_,hv,_=>hv.mono z.le
theorem VAs.frz {K:Nat} {D:AV} {L:Nat->AV} {s m:Nat} (z:EJ F F' g K D L s m):∀{xs:List AV} {vs:List SV},VAs F g vs xs->(∀q∈lI K xs,q=(s,m))->VAs F' g vs (kr K D L xs)
 | [],_,hv,_=>by cases hv;exact .nil
 |x::l,_,hv,ho=>by
  cases hv with|cons h t=>
   exact .cons (VA.frz z h fun q hq=>ho q (List.mem_append_left _ hq)) (VAs.frz z t fun q hq=>ho q (List.mem_append_right _ hq))
end
def bG {α:Type} (K:Nat):List (Nat×α)->List (Nat×α)
 | []=> []
 |p::l=>sel (Nat.beq p.1 K) (bG K l) (p::bG K l)
theorem dz {α:Type} (K k:Nat):∀l:List (Nat×α),lk k (bG K l)=if k=K then none else lk k l
 | []=>by split<;>rfl
 |(j,x)::l=>by
  show lk k (sel (Nat.beq j K) (bG K l) ((j,x)::bG K l))=_;rw[aA];split
  ·rename_i e;obtain rfl:=(beq_iff _ _).1 e;rw[dz j k l,bh];split<;>rfl
  ·rename_i e;have hj:j≠K:=fun c=>e ((beq_iff _ _).2 c)
   rw[bh,bh,dz K k l];by_cases hk:k=j
   ·rw[if_pos hk,if_pos hk,if_neg (fun c=>hj (hk ▸ c))]
   ·rw[if_neg hk,if_neg hk]
def Bx.frz (K:Nat) (D:AV) (L:Nat->AV):Bx->Bx
 | .flat e cs=>.flat e (kr K D L cs)
 | .hole e s Q i x=>.hole e s Q i (uF K D L x)
 | .own e e' s Q o=>.own e e' s Q (D1 (uF K D L) o)
 |b=>b
def Bx.occ (K:Nat):Bx->List (Nat×Nat)
 | .flat _ cs=>lI K cs
 | .hole _ _ _ _ x=>zI K x
 | .own _ _ _ _ (some p)=>zI K p.2
 |_=> []
def LS.frz (s:LS) (K:Nat) (D:AV) (L:Nat->AV):LS:=⟨s.ts.map fun p=>(p.1,uF K D L p.2),(bG K s.bs).map fun p=>(p.1,Bx.frz K D L p.2)⟩
def ue (K:Nat):List (Nat×AV)->List (Nat×Nat)
 | []=> []
 |p::l=>zI K p.2++ue K l
def oN (K:Nat):List (Nat×Bx)->List (Nat×Nat)
 | []=> []
 |p::l=>p.2.occ K++oN K l
theorem Kp {K t:Nat} {x:AV}:∀{l:List (Nat×AV)},(t,x)∈l->∀q∈zI K x,q∈ue K l
 |p::l,h,q,hq=>by
  rcases List.mem_cons.1 h with rfl|h
  ·exact List.mem_append_left _ hq
  ·exact List.mem_append_right _ (Kp h q hq)
theorem Kq {K t:Nat} {x:Bx}:∀{l:List (Nat×Bx)},(t,x)∈l->∀q∈x.occ K,q∈oN K l
 |p::l,h,q,hq=>by
  rcases List.mem_cons.1 h with rfl|h
  ·exact List.mem_append_left _ hq
  ·exact List.mem_append_right _ (Kq h q hq)
theorem Rel.frz (r:Rel B F g φ s tm h) {K:Nat} {b:Bx} {D:AV} {L:Nat->AV} {sz m:Nat} (hb:lk K s.bs=some b) (hp:B.pk K=false) (ho:∀q∈ue K s.ts++oN K s.bs,q=(sz,m))
  (hz:∀F',Hle F F'->(∀i∈φ K,F' i=h.hp.get i)->cD F g h.hp.get K b (φ K)->EJ F F' g K D L sz m):∃F',Hle F F'/\Rel B F' g φ (s.frz K D L) tm h:=by
 let F':Hf:=fun i=>if i∈φ K then h.hp.get i else F i
 have hF:Hle F F':=fun id o ho=>by
  show (if id∈φ K then h.hp.get id else F id)=some o
  split
  ·exact r.sub id o ho
  ·exact ho
 have z:=hz F' hF (fun i hi=>if_pos hi) (r.bx K b hb)
 have hm:∀i∈φ K,B.nx<=i:=fun i hi=>(r.g7 K b hb i hi).elim (fun c=>by have:=c.1;rw[hp] at this;cases this) fun c=>c
 have back:∀{k b'},lk k (s.frz K D L).bs=some b'->k≠K/\∃b0,lk k s.bs=some b0/\b'=Bx.frz K D L b0:=fun {k b'} hk=>by
  rw[show (s.frz K D L).bs=(bG K s.bs).map fun p=>(p.1,Bx.frz K D L p.2) from rfl,iu,dz] at hk
  split at hk
  ·cases hk
  ·rename_i hne;obtain ⟨b0,h0,rfl⟩:=Option.map_eq_some_iff.1 hk;exact ⟨hne,b0,h0,rfl⟩
 refine ⟨F',hF,fun t y hy hn=> ?_,fun k b' hk=> ?_,fun k k' b1 b2 h1 h2 hne=> ?_,fun k b' hk i hi=> ?_,fun i o hi=> ?_,r.bd,r.nx,r.old,r.f0.trans hF,fun i o hi=> ?_,fun k b' hk=> ?_,r.lg,r.pin⟩
 ·rw[show (s.frz K D L).ts=s.ts.map fun p=>(p.1,uF K D L p.2) from rfl,iu] at hy
  obtain ⟨x,hx,rfl⟩:=Option.map_eq_some_iff.1 hy;by_cases hu:x= .undef
  ·subst hu;exact absurd rfl hn
  ·obtain ⟨v,v1,v2⟩:=r.tm t x hx hu;exact ⟨v,v1,v2.frz z fun q hq=>ho q (List.mem_append_left _ (Kp (ou hx) q hq))⟩
 ·obtain ⟨hne,b0,h0,rfl⟩:=back hk;have hq:=r.bx k b0 h0;have hoc:∀q∈b0.occ K,q=(sz,m):=fun q hq=>ho q (List.mem_append_right _ (Kq (ou h0) q hq))
  generalize φ k=fp at hq ⊢;cases hq with
  |flat hh q=>exact .flat hh (q.frz z hoc)
  |cI hb=>exact .cI hb
  |rows hb hh hz hu hc q=>exact .rows hb hh hz hu hc (q.mono hF)
  |map hh q1 q2=>exact .map hh (q1.mono hF) (q2.mono hF)
  |iter hh=>exact .iter hh
  |hole hb hh hu hc q hi hv hx=>exact .hole hb hh hu hc (q.mono hF) hi hv (hx.frz z hoc)
  |jN hb=>exact .jN hb
  |own hb hh hc q nd ho=>
   refine .own hb hh hc (q.gf hF fun _ _=>rfl) nd fun i x e=> ?_
   obtain ⟨y,e1,rfl⟩:=ot e;subst e1;obtain ⟨a,v,b,c⟩:=ho i y rfl;exact ⟨a,v,b,c.frz z hoc⟩
 ·obtain ⟨_,c1,d1,_⟩:=back h1;obtain ⟨_,c2,d2,_⟩:=back h2;exact r.dj k k' c1 c2 d1 d2 hne
 ·obtain ⟨hne,b0,h0,rfl⟩:=back hk;show (if i∈φ K then h.hp.get i else F i)=none
  rw[if_neg (r.dj k K b0 b h0 hb hne i hi)];exact r.nf k b0 h0 i hi
 ·have hi:(if i∈φ K then h.hp.get i else F i)=some o:=hi
  split at hi
  ·exact hi
  ·exact r.sub i o hi
 ·have hi:(if i∈φ K then h.hp.get i else F i)=some o:=hi
  split at hi
  ·rename_i hc;exact .inr (hm i hc)
  ·exact r.fn i o hi
 ·obtain ⟨_,b0,h0,_⟩:=back hk;exact r.g7 k b0 h0
def zD (x:Bool) (e:TypeId) (s:Nat) (Q:Option (List (List AV))):List AV:=match Q with|some Q=> [sel x (.slx e s Q) (.slice e s Q)]|none=> [.undef]
def Ej (x:Bool):Bx->AV
 | .rows true e s Q=>.sln e s Q
 | .rows false e s Q=>.slice e s Q
 | .own e e' s Q _=>.slice e 1 (Q.map (zD x e' s))
 |_=>.undef
def sO (b:Bx):AV:=Ej false b
def Z0:Bx->Nat->AV
 | .flat _ cs,off=>sel (Nat.ble off cs.length) (.imm (cs.drop off)) .undef
 |_,_=>.undef
def zW:Bx->Nat×Nat
 | .rows _ _ s Q=>(s,Q.length)
 | .own _ _ _ Q _=>(1,Q.length)
 |_=>(0,0)
theorem Fb {x:Bool} {e:TypeId} {s:Nat}:∀Q:List (Option (List (List AV))),(∀r∈Q.map (zD x e s),r.length=1)
 | [],r,h=>by cases h
 |q::Q,r,h=>by
  rw[List.map_cons] at h;rcases List.mem_cons.1 h with e|h
  ·rw[e];cases q<;>rfl
  ·exact Fb Q r h
theorem gT.data {x:Bool} {e:TypeId} {s:Nat} (hF:Hle F F'):∀{vs:List SV} {Q:List (Option (List (List AV)))} {fs:List (List Nat)},gT F hp e s vs Q fs->(∀i∈fs.flatten,F' i=hp i)->VAs F' .no vs (Q.map (zD x e s)).flatten
 |_,_,_,.nil,_=>.nil
 |_,_,_,.cons q t,hi=>by
  have t':=t.data (x:=x) hF fun i h=>hi i (by rw[List.flatten_cons];exact List.mem_append_right _ h)
  cases q with
  |any=>exact .cons (.undef _) t'
  |nil=>exact .cons (by cases x;exact .iY e s;exact .mD e s) t'
  | @sl id c svs Q hh hu hc q=>
   have hF0:=(hi id (by simp)).trans hh
   have hle:=eN hc;refine .cons ?_ t';cases x
   ·exact .slice (fN hF0) (xK hc) rfl hu (by omega) (by rw[List.drop_zero];exact q.mono hF)
   ·exact .slx (fN hF0) (xK hc) rfl hu (by omega) (by rw[List.drop_zero];exact q.mono hF)
def fY:Bx->Bool
 | .flat _ cs=>(cM cs).isEmpty
 |_=>true
theorem XQ {e:TypeId} {n:Nat} {c:Cp} (h:oX e n c):oX e n (kz c 0):=by cases c<;>exact h
theorem qe {x:Bool} {K:Nat} {b:Bx} {fp:List Nat} (hF:Hle F F') (hk:fY b=true) (hi:∀i∈fp,F' i=hp i) (q:cD F g hp K b fp):EJ F F' g K (Ej x b) (Z0 b) (zW b).1 (zW b).2:=by
 refine ⟨hF,fun v hv=> ?_,fun v off hv=> ?_⟩
 ·cases q with
  |flat|map|iter|hole=>exact .undef v
  | @jN e e' s hb=>
   have hv:VA F g v (.ms K 1 0 0):=hv;cases hv with
   |msN=>exact .iY e 1
   |msE _ _ h0=>cases h0
   |ms _ _ _ hb'=>rw[hb] at hb';cases hb'
  | @own e e' s Q o svs fs hb hh hc q nd ho=>
   have hv:VA F g v (.ms K 1 0 Q.length):=hv;generalize hm:Q.length=m at hv;cases hv with
   |msN s hb'=>rw[hb] at hb';cases hb'
   |msE _ _ h0=>cases h0
   |ms _ _ _ hb'=>
    subst hm;have hF0:=(hi (g.ρ K) (by simp)).trans hh
    have hl:=eN hc;refine .slice (fN hF0) (XQ (xK hc)) (by rw[List.length_map]) (Fb Q) (by omega) ?_
    rw[Nat.zero_mul,List.drop_zero,Nat.mul_one];exact q.data hF fun i h=>hi i (List.mem_cons_of_mem _ h)
  | @cI z e s hb=>
   have hv:VA F g v (.ms K s 0 0):=hv;cases hv with
   |msN=>cases z;exact .iY e s;exact .ni e s
   |msE _ _ h0=>cases h0
   |ms _ _ _ hb'=>rw[hb] at hb';cases hb'
  | @rows z e s Q svs hb hh hz hu hc q=>
   have hv:VA F g v (.ms K s 0 Q.length):=hv;have hl:=eN hc;generalize hm:Q.length=m at hv;cases hv with
   |msN s hb'=>rw[hb] at hb';cases hb'
   |msE _ _ h0=>cases h0
   |ms _ _ _ hb'=>
    subst hm;have hF0:=(hi (g.ρ K) (by simp)).trans hh
    have hct:oX e Q.length (kz (g.κ K) 0):=by have:=xK hc;cases hκ:g.κ K<;>rw[hκ] at this<;>exact this
    rw[Nat.zero_mul];cases z
    ·exact .slice (fN hF0) hct rfl hu (by omega) (by rw[List.drop_zero];exact q.mono hF)
    ·exact .sln (fN hF0) hct rfl (hz rfl) hu (by omega) (by rw[List.drop_zero];exact q.mono hF)
 ·cases q with
  |cI|rows|map|iter|hole|own|jN=>exact .undef v
  | @flat e cs svs hh q=>
   show VA F' g v (sel (Nat.ble off cs.length) (.imm (cs.drop off)) .undef);rw[aA];split
   ·rename_i hle;have hle:off<=cs.length:=Nat.le_of_ble_eq_true hle;cases hv;have hk:(cM cs).isEmpty=true:=hk;have q0:VAs F .no svs cs:=q.gb (fun k hk'=>by rw[List.isEmpty_iff.1 hk] at hk';cases hk')
    refine .imm (fN ((hi (g.ρ K) (by simp)).trans hh)) (by rw[List.length_drop,q.length];omega) ?_
    have:=(q0.mono hF).drop off;rw[<-this.length,List.take_length];exact this
   ·exact .undef v
end
end Go.Sim
end
