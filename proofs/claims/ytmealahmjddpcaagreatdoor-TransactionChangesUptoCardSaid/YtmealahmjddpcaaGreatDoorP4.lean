/- Texts that belong together. The first: Soundness: code. -/
import Derived.Test.YtmealahmjddpcaaGreatDoorP3
import Derived.RangeFuncRecord
import Derived.RangeFuncLeaves
import Derived.RecoverIn
import Derived.ProofKit
import Derived.OpenShut
set_option linter.all false
noncomputable section
namespace Go.Sim
open Go.RowKit
section
section
variable {F:Fence} {n:Nat} {P:Program} {Q:Exit→Act→World→Prop} {a:Act} {w:World} {c:Code}
theorem Fc (h:c.wpIn F n P (Exit.then (AK F n P c Q) Q) a w):AK F n P c Q a w:=by
 intro b k cs hro hb hr;obtain ⟨e,a₁,w₁,hq,iK⟩:=h b (.inLoop c::k) cs hro hb hr;cases e with
 |normal=>
  obtain ⟨e₂,a₂,w₂,aiU,afi⟩:=hq b k cs hro hb hr;exact ⟨e₂,a₂,w₂,aiU,.of_steps (StepsIn.trans iK (.one (fenced_calm hb hr rfl) stepR_inLoop)) afi⟩
 |exit id=>exact ⟨_,a₁,w₁,hq,.pass (x:=.inLoop c) rfl (fun _ _=>.inl (by simp)) iK⟩
 |goto l=>exact ⟨_,a₁,w₁,hq,.pass (x:=.inLoop c) rfl (fun _ _=>.inl (by simp)) iK⟩
 |ret=>exact ⟨_,a₁,w₁,hq,.pass (x:=.inLoop c) rfl (fun _ _=>.inl (by simp)) iK⟩
 |panic ch=>exact ⟨_,a₁,w₁,hq,.pass (x:=.inLoop c) rfl (fun _ _=>.inl (by simp)) iK⟩
 |outgrown=>exact ⟨_,a₁,w₁,hq,.pass (x:=.inLoop c) rfl (fun _ _=>.inl (by simp)) iK⟩
theorem Cz (h:AK F n P c Q a w):(Code.loop c).wpIn F n P Q a w:=fun b k cs hro hb hr=>
 let ⟨e,a',w',hq,iK⟩:=h b k cs hro hb hr
 ⟨e,a',w',hq,.of_steps (.one (fenced_calm hb hr rfl) stepR_loop) iK⟩
theorem ku (h:wpX F n P c Q a w):c.wpIn F n P Q a w:=by
 cases c<;>first|exact h|exact Cz h
end
variable {E:Env} {g:Gh} {f:Hf} {w:World}
theorem okL {a b:Code} (h:codeOk (.seq a b)=true):codeOk a=true:=by
 have h:(codeOk a&&codeOk b)=true:=h;rw[Bool.and_eq_true] at h;exact h.1
theorem okR {a b:Code} (h:codeOk (.seq a b)=true):codeOk b=true:=by
 have h:(codeOk a&&codeOk b)=true:=h;rw[Bool.and_eq_true] at h;exact h.2
theorem DT.aiH {nt W:Nat} {ops:Array Oper} {base i:Nat} {prev:List St} {l:List Oper} {T:Tf} {F:Hf} {nx:Nat} {T':Tf} {F':Hf} {nx':Nat} {out:List St} (h:DT E nt W ops base i prev l T F nx T' F' nx' out):nx≤nx':=by
 induction h with
 |nil=>exact Nat.le_refl _
 |cons c h ih=>exact Nat.le_trans c.nJ ih
theorem da.seq {nt:Nat} {a b:Code} {tm:Tr SV} {mk:List Dm} {h:Hs} {l1 r:List Oc} (k1:da E nt a tm mk h l1)
  (kin:∀o∈l1,(o.e= .normal∧∃r',da E nt b o.tm o.dm o.h r'∧∀x∈r',x∈r)∨(o.e≠ .normal∧o∈r)) (Zr:∀x∈r,∃o∈l1,(∃r',da E nt b o.tm o.dm o.h r'∧x∈r')∨x=o):da E nt (.seq a b) tm mk h r:=by
 obtain ⟨n1,f1,s1⟩:=k1;have hne:r≠ []:=by
  obtain ⟨o,ho⟩:=List.exists_mem_of_ne_nil _ n1;rcases kin o ho with ⟨_,r',⟨n2,_⟩,h2⟩|⟨_,h2⟩
  ·obtain ⟨x,hx⟩:=List.exists_mem_of_ne_nil _ n2;exact List.ne_nil_of_mem (h2 x hx)
  ·exact List.ne_nil_of_mem h2
 refine ⟨hne,fun x hx=> ?_,fun ro m g ac w Q hok hro hE hfr hr hm hnx hk=>wpIn_seq (ku ?_)⟩
 ·obtain ⟨o,ho,⟨r',⟨_,f2,_⟩,hx⟩|rfl⟩:=Zr x hx
  ·exact ⟨(f1 o ho).1.trans (f2 x hx).1,gh.trans (f1 o ho).1.nx (f1 o ho).2 (f2 x hx).2⟩
  ·exact f1 x ho
 have hlen:∀o∈l1,ro=none∨o.dm.length=mk.length:=by
  intro o ho;rcases hro with hro|hro
  ·exact .inl hro
  ·refine .inr ?_;have h1:=(f1 o ho).2.1;rcases kin o ho with ⟨_,r',⟨n2,f2,_⟩,h2⟩|⟨_,h2⟩
   ·obtain ⟨x,hx⟩:=List.exists_mem_of_ne_nil _ n2;have h3:=(f2 x hx).2.1;have h4:=hro x (h2 x hx);omega
   ·exact hro o h2
 refine s1 ro m g ac w _ (okL hok) (by
  by_cases h:ro=none
  ·exact .inl h
  ·exact .inr fun o ho=>(hlen o ho).resolve_left h) hE hfr hr hm hnx (fun o ho g1 a1 w1 x q0 q1 q2 q3 q4 q5 q6=> ?_)
 rcases kin o ho with ⟨he,r',⟨n2,f2,s2⟩,h2⟩|⟨he,h2⟩
 ·rw[he] at q0;cases q0;refine ku (s2 ro m g1 a1 w1 Q (okR hok) (hro.imp_right fun hro z hz=> ?_) (hE.mono q3.le) q1 q2 q4 q5 (fun z hz g2 a2 w2 x r0 r1 r2 r3 r4 r5 r6=>hk z (h2 z hz) g2 a2 w2 x r0 r1 r2 (q3.trans r3) r4 r5 (fun y hy=>by rw[r6 y (Nat.lt_of_lt_of_le hy (f1 o ho).1.nx),q6 y hy])))
  have h1:=(f1 o ho).2.1;have h3:=(f2 z hz).2.1;have h4:=hro z (h2 z hz);omega
 ·have:=hk o h2 g1 a1 w1 x q0 q1 q2 q3 q4 q5 q6;generalize o.e=e at q0 he;cases q0 with
  |normal=>exact absurd rfl he
  |exit id=>exact this
  |ret=>exact this
  |pan hv=>exact this
theorem da.loop {nt:Nat} {c:Code} {tm:Tr SV} {mk:List Dm} {h:Hs} {l1 r:List Oc} (k1:da E nt c tm mk h l1)
  (kin:∀o∈l1,(o.e= .normal∧∃r',da E nt (.loop c) o.tm o.dm o.h r'∧∀x∈r',x∈r)∨(o.e≠ .normal∧o∈r)) (Zr:∀x∈r,∃o∈l1,(∃r',da E nt (.loop c) o.tm o.dm o.h r'∧x∈r')∨x=o):da E nt (.loop c) tm mk h r:=by
 obtain ⟨n1,f1,s1⟩:=k1;have hne:r≠ []:=by
  obtain ⟨o,ho⟩:=List.exists_mem_of_ne_nil _ n1;rcases kin o ho with ⟨_,r',⟨n2,_⟩,h2⟩|⟨_,h2⟩
  ·obtain ⟨x,hx⟩:=List.exists_mem_of_ne_nil _ n2;exact List.ne_nil_of_mem (h2 x hx)
  ·exact List.ne_nil_of_mem h2
 refine ⟨hne,fun x hx=> ?_,fun ro m g ac w Q hok hro hE hfr hr hm hnx hk=>Fc (ku ?_)⟩
 ·obtain ⟨o,ho,⟨r',⟨_,f2,_⟩,hx⟩|rfl⟩:=Zr x hx
  ·exact ⟨(f1 o ho).1.trans (f2 x hx).1,gh.trans (f1 o ho).1.nx (f1 o ho).2 (f2 x hx).2⟩
  ·exact f1 x ho
 have hlen:∀o∈l1,ro=none∨o.dm.length=mk.length:=by
  intro o ho;rcases hro with hro|hro
  ·exact .inl hro
  ·refine .inr ?_;have h1:=(f1 o ho).2.1;rcases kin o ho with ⟨_,r',⟨n2,f2,_⟩,h2⟩|⟨_,h2⟩
   ·obtain ⟨x,hx⟩:=List.exists_mem_of_ne_nil _ n2;have h3:=(f2 x hx).2.1;have h4:=hro x (h2 x hx);omega
   ·exact hro o h2
 refine s1 ro m g ac w _ hok (by
  by_cases h:ro=none
  ·exact .inl h
  ·exact .inr fun o ho=>(hlen o ho).resolve_left h) hE hfr hr hm hnx (fun o ho g1 a1 w1 x q0 q1 q2 q3 q4 q5 q6=> ?_)
 rcases kin o ho with ⟨he,r',⟨n2,f2,s2⟩,h2⟩|⟨he,h2⟩
 ·rw[he] at q0;cases q0;refine s2 ro m g1 a1 w1 Q hok (hro.imp_right fun hro z hz=> ?_) (hE.mono q3.le) q1 q2 q4 q5 (fun z hz g2 a2 w2 x r0 r1 r2 r3 r4 r5 r6=>hk z (h2 z hz) g2 a2 w2 x r0 r1 r2 (q3.trans r3) r4 r5 (fun y hy=>by rw[r6 y (Nat.lt_of_lt_of_le hy (f1 o ho).1.nx),q6 y hy]))
  have h1:=(f1 o ho).2.1;have h3:=(f2 z hz).2.1;have h4:=hro z (h2 z hz);omega
 ·have:=hk o h2 g1 a1 w1 x q0 q1 q2 q3 q4 q5 q6;generalize o.e=e at q0 he;cases q0 with
  |normal=>exact absurd rfl he
  |exit id=>exact this
  |ret=>exact this
  |pan hv=>exact this
theorem Qu (id i:Nat):leave id (.exit i)=if i=id then .normal else .exit i:=by
 show sel (Nat.beq i id) Ex.normal (.exit i)=_;rw[aB,beq_eq];by_cases h:i=id<;>simp[h]
theorem da.block {nt id:Nat} {c:Code} {tm:Tr SV} {mk:List Dm} {h:Hs} {l r:List Oc} (k1:da E nt c tm mk h l) (hr:∀x,x∈r↔∃o∈l,x=⟨leave id o.e,o.tm,o.dm,o.h⟩):da E nt (.block id c) tm mk h r:=by
 obtain ⟨n1,f1,s1⟩:=k1;refine ⟨?_,fun x hx=> ?_,fun ro m g a w Q hok hro hE hfr hrr hm hnx hk=>wpIn_block (ku ?_)⟩
 ·obtain ⟨o,ho⟩:=List.exists_mem_of_ne_nil _ n1;exact List.ne_nil_of_mem ((hr ⟨leave id o.e,o.tm,o.dm,o.h⟩).2 ⟨o,ho,rfl⟩)
 ·obtain ⟨o,ho,rfl⟩:=(hr x).1 hx;exact f1 o ho
 refine s1 ro m g a w _ hok (hro.imp_right fun hro o ho=>hro ⟨leave id o.e,o.tm,o.dm,o.h⟩ ((hr _).2 ⟨o,ho,rfl⟩)) hE hfr hrr hm hnx (fun o ho g1 a1 w1 x q0 q1 q2 q3 q4 q5 q6=> ?_)
 have key:∀y,ExR g1 (leave id o.e) y→Q y a1 w1:=fun y hy=>hk ⟨leave id o.e,o.tm,o.dm,o.h⟩ ((hr _).2 ⟨o,ho,rfl⟩) g1 a1 w1 y hy q1 q2 q3 q4 q5 q6
 generalize he:o.e=e at q0 key;cases q0 with
 |normal=>exact key _ .normal
 |ret=>exact key _ .ret
 |pan hv=>exact key _ (.pan hv)
 |exit i=>
  rw[Qu] at key;show (if i=id then Q .normal a1 w1 else Q (.exit i) a1 w1)
  split
  ·rename_i hi;rw[if_pos hi] at key;exact key _ .normal
  ·rename_i hi;rw[if_neg hi] at key;exact key _ (.exit i)
theorem da.calm {nt:Nat} {c:Code} {tm:Tr SV} {mk:List Dm} {h:Hs} {e:Ex} (x:Exit) (hx:∀g,ExR g e x) (hb:Bd h) (hw:∀(ro:Option Nat) (m:Nat) (Q:Exit→Act→World→Prop) (a:Act) (w:World),Q x a w→wpX (fro ro) m E.P c Q a w):da E nt c tm mk h [⟨e,tm,mk,h⟩]:=
 ⟨by simp,fun o ho=>by
  obtain rfl:=List.mem_singleton.1 ho;exact ⟨Fac.refl hb,gh.refl _ _⟩,fun ro m g a w Q _ _ hE hfr hr hm hnx hk=>hw ro m Q a w (hk ⟨e,tm,mk,h⟩ (by simp) g a w x (hx g) hfr hr (Fr.refl _ _ _) hm hnx fun _ _=>rfl)⟩
theorem da.ops {nt id:Nat} {ops:Array Oper} {tm:Tr SV} {mk:List Dm} {h:Hs} {r:List Oc} (k:OpsS E nt ops ops.toList tm mk h r):da E nt (.region id ops false) tm mk h r:=by
 obtain ⟨n1,f1,s1⟩:=k;refine ⟨n1,f1,fun ro m g a w Q hok hro hE hfr hr hm hnx hk=>wpIn_region ?_⟩
 have:=s1 ro m g a w Q hro hE hfr hr hm hnx hk;simpa[List.range_eq_range'] using this
theorem da.draw {nt id:Nat} {ops:Array Oper} {tm tm1:Tr SV} {mk:List Dm} {h h1:Hs} {out:List St}
  (hf:Sj h.nx 0 ops.size ⟨h.hp,Nat.add h.nx ops.size,h.lg⟩ h1) (hd:DT E nt ops.size ops h.nx 0 [] ops.toList tm.get h.hp.get (Nat.add h.nx ops.size) tm1.get h1.hp.get h1.nx out):da E nt (.region id ops true) tm mk h [⟨.normal,tm1,mk,h1⟩]:=by
 have ZX:h.nx≤h1.nx:=Nat.le_trans (Nat.le_add_right _ _) hf.nx;refine ⟨by simp,fun o ho=> ?_,fun ro m g a w Q hok hro hE hfr hr hm hnx hk=> ?_⟩
 ·obtain rfl:=List.mem_singleton.1 ho;exact ⟨⟨ZX,hf.bd,fun x hx hn=>hf.lg x (Nat.lt_of_lt_of_le hx (Nat.le_add_right _ _)) (by omega) hn,hf.sub,fun x hx hn=>hf.dead x (Nat.lt_of_lt_of_le hx (Nat.le_add_right _ _)) (by omega) hn⟩,gh.refl _ _⟩
 exact yx (show mr ops.size ops.toList ops.toList 0 0 []=true from hok) hE.mix (List.take_of_length_le (Nat.le_refl _)) hd (Nat.le_add_right _ _) hE hfr hr hnx (.inl (by simp)) (fun _ g1 a1 w1 q1 q2 q3 q4 q5 q6=>hk ⟨.normal,tm1,mk,h1⟩ (by simp) g1 a1 w1 _ .normal q1 q2 q3 (by rw[q4];exact hm.mono q3.le) q6 q5)
theorem da.afm {nt id:Nat} {ops:Array Oper} {tm tm1:Tr SV} {mk:List Dm} {h h1:Hs} {out:List St} {l0:List Oper} {o:Oper} {F1:Hf} {nx1:Nat} {v:SV}
  (hf:Sj h.nx 0 ops.size ⟨h.hp,Nat.add h.nx ops.size,h.lg⟩ h1) (hl:ops.toList=l0++ [o]) (hd:DT E nt ops.size ops h.nx 0 [] l0 tm.get h.hp.get (Nat.add h.nx ops.size) tm1.get F1 nx1 out) (hp:CndP E nt ops (0+l0.length) o tm1.get F1 nx1 v h1.hp.get h1.nx):da E nt (.region id ops true) tm mk h [⟨.pan v,tm1,mk,h1⟩]:=by
 have ZX:h.nx≤h1.nx:=Nat.le_trans (Nat.le_add_right _ _) hf.nx;refine ⟨by simp,fun o ho=> ?_,fun ro m g a w Q hok hro hE hfr hr hm hnx hk=> ?_⟩
 ·obtain rfl:=List.mem_singleton.1 ho;exact ⟨⟨ZX,hf.bd,fun x hx hn=>hf.lg x (Nat.lt_of_lt_of_le hx (Nat.le_add_right _ _)) (by omega) hn,hf.sub,fun x hx hn=>hf.dead x (Nat.lt_of_lt_of_le hx (Nat.le_add_right _ _)) (by omega) hn⟩,gh.refl _ _⟩
 rw[Nat.zero_add] at hp;have hlen:=hp.last;refine yx (Q:=Q) (show mr ops.size ops.toList ops.toList 0 0 []=true from hok) hE.mix (by rw[hl];simp) hd (Nat.le_add_right _ _) hE hfr hr hnx (.inr ⟨hlen,?_,hp.anc,fun g1 a1 w1 K q0 q1 q2 q3 q4 q5 q6=> ?_⟩) (fun he=>by omega)
 ·rw[vX hp.op];exact hp.lt
 ·refine hp.sem ro m g1 a1 w1 Q K q0 q1 q2 q6 (fun u w2 g2 r1 r2 r3 r4 r5=> ?_)
  refine hk ⟨.pan v,tm1,mk,h1⟩ (by simp) g2 a1 w2 _ (.pan r1) (q1.mono r3.le) r2 (q3.trans r3) (by rw[q4];exact hm.mono (q3.trans r3).le) r5 (fun x hx=> ?_)
  have hb1:h.nx≤nx1:=by
   by_cases hc:h.nx≤nx1
   ·exact hc
   ·exfalso;have:=hd.aiH;have h3:h.nx≤Nat.add h.nx ops.size:=Nat.le_add_right _ _;omega
  rw[r4 x (by omega),q5 x hx]
theorem rT.zero (ops:Array Oper) (W:Nat):rT ops W 0 0:=fun p hp=>by simp at hp
theorem Xr {j:Option Code} {tm:Tr SV} {mk:List Dm} {h:Hs} {Q:Out→Prop} (hf:∀s,Q (.fail s)) (h1:j=none→Q (.code .normal tm mk h)) (h2:j=some .ret→Q (.code .ret tm mk h)) (h3:∀id,j=some (.exit id)→Q (.code (.exit id) tm mk h)):Q (adF j tm mk h):=by
 cases j with
 |none=>exact h1 rfl
 |some c=>cases c<;>first|exact hf _|exact h2 rfl|exact h3 _ rfl
theorem Qk {s:LoopState} (h:Dt s=true):s≠ .busy:=by intro e;subst e;cases h
theorem ov (nt:Nat) (tm:Tr SV) (ps:List Nat) (as bo:Code) (h:Hs):(gS nt tm ps as bo h).hp.get=upF (upF h.hp.get (h.nx,some .dfr)) (h.nx+1,some (.loop nt tm ps as bo .ready none h.nx)):=by
 funext x;show ((h.hp.set h.nx (some .dfr)).set (h.nx+1) (some (SO.loop nt tm ps as bo .ready none h.nx))).get x=_;rw[Tr.bU,Tr.bU];rfl
theorem RB {nt:Nat} {tm:Tr SV} {ps:List Nat} {as bo:Code} {h:Hs} (hb:Bd h):Fac h (gS nt tm ps as bo h):=by
 refine ⟨Nat.le_add_right _ _,fun x hx=> ?_,fun x hx _=> ?_,fun _ hx=>hx,fun x hx hn=> ?_⟩
 ·have hx:h.nx+2≤x:=hx;rw[ov,upF,upF,if_neg (show x≠h.nx+1 by omega),if_neg (show x≠h.nx by omega)]
  exact hb x (by omega)
 ·rw[ov,upF,upF,if_neg (show x≠h.nx+1 by omega),if_neg (show x≠h.nx by omega)]
 ·rw[ov,upF,upF,if_neg (show x≠h.nx+1 by omega),if_neg (show x≠h.nx by omega)]
  exact hn
theorem wS {h:Hs} {l:Nat} {o o':SO} (hb:Bd h) (hl:h.hp.get l=some o):Fac h (h.put l o'):=by
 have hlt:l<h.nx:=by
  by_cases hc:h.nx≤l
  ·rw[hb l hc] at hl;simp at hl
  ·omega
 have hg:∀x,(h.put l o').hp.get x=if x=l then some o' else h.hp.get x:=fun x=>Tr.bU _ _ _ _
 refine ⟨Nat.le_refl _,fun x hx=> ?_,fun x hx hn=> ?_,fun x hx=>List.mem_cons_of_mem _ hx,fun x hx hn=> ?_⟩
 ·have hx:h.nx≤x:=hx;rw[hg,if_neg (by omega)];exact hb x hx
 ·have hn:x∉l::h.lg:=hn;rw[hg,if_neg (fun e=>hn (by simp[e]))]
 ·rw[hg,if_neg (fun e=>by subst e;rw[hl] at hn;simp at hn)];exact hn
theorem Di (h:Hs) (l:Nat) (o:SO):(h.put l o).hp.get=upF h.hp.get (l,some o):=funext fun x=>Tr.bU _ _ _ _
theorem HR.loop {h:Hf} {w:World} {l b c nt dd:Nat} {tm:Tr SV} {ps:List Nat} {as bo:Code} {st:LoopState} {pe:Option Code} (hr:HR g h w) (hl:h l=some (.loop nt tm ps as bo st pe dd)) (hρ:g.ρ l=some (b,c)) (st':LoopState) (pe':Option Code):
  ∃r:Loop,w.heap[b]? =some (.loop r)∧r.state=st∧r.pending=pe∧HR g (upF h (l,some (.loop nt tm ps as bo st' pe' dd))) (w.putObj b (.loop {r with state:=st',pending:=pe'}))∧Fr g h w g (upF h (l,some (.loop nt tm ps as bo st' pe' dd))) (w.putObj b (.loop {r with state:=st',pending:=pe'})):=by
 obtain ⟨hlt,hor⟩:=hr.at hl hρ;obtain ⟨k1,k2,r,h1,h2,h3,h4,h5,h6,h7,o',h8⟩:=hor;have hw:=HR.write hr (o':=.loop nt tm ps as bo st' pe' dd) (w':=w.putObj b (.loop {r with state:=st',pending:=pe'})) hl hρ (by simp) (fun k hk=>World.putObj_heap_other hk)
  ⟨k1,k2,{r with state:=st',pending:=pe'},by simp[World.putObj,hlt],rfl,rfl,h4,h5,h6,h7,o',h8⟩ rfl rfl rfl
 exact ⟨r,h1,h2,h3,hw.1,hw.2⟩
end
section
variable {E:Env} {g:Gh} {f:Hf} {w:World}
theorem qP {x:SV} (h:tG E x=true):∃k fi ca fn,x= .fn (.func k) fi ca∧E.fn.get k=some fn∧fn.body.isSome=true:=by
 cases x with
 |fn f fi ca=>
  cases f with
  |func k=>
   have h: @Option.rec Func (fun _=>Bool) false (fun fn=>fn.body.isSome) (E.fn.get k)=true:=h
   cases hf:E.fn.get k with
   |none=>rw[hf] at h;cases h
   |some fn=>rw[hf] at h;exact ⟨k,fi,ca,fn,rfl,hf,h⟩
  |_=>cases h
 |_=>cases h
theorem fU {P:Program} {k:FuncId} {fn:Func} (hf:P.funcs[k]? =some fn) (hb:fn.body.isSome=true) (args:Array Value) (w:World):
  ((callFunc k args).run P w= .ok .numGoroutine w∧fn.name= "runtime.NumGoroutine")∨(callFunc k args).run P w= .ok (.enter k args) w:=by
 have h2:fn.body≠none:=by cases hfb:fn.body<;>simp_all
 by_cases h:fn.name= "runtime.NumGoroutine"
 ·left;exact ⟨by simp[callFunc,hf,h,Sem.run],h⟩
 ·right;simp[callFunc,hf,h,h2,Sem.run]
theorem py {P:Program} (k:FuncId) (fi ca us:Array Value) (w:World):(Deferred.ofValue (.func (.func k) fi ca) us).run P w= .ok {target:=.fn (.func k) ca,args:=fi++us} w:=rfl
theorem P9 (hS:jk E) {nt:Nat} {fop:Operand} {ps:Array Nat} {as bo as' bo':Code} {tm tm0:Tr SV} {mk:List Dm} {ps':List Nat} {h h2:Hs} {gv v:SV} {nt' dd:Nat} {st:LoopState} {gJ:Option Code} {e:Ex}
  (hgo:tG E gv=true) (hgv:aK tm.get fop=some gv) (hs:Bd (gS nt tm ps.toList as bo h)→Fac (gS nt tm ps.toList as bo h) h2∧ju E false gv [.yld (h.nx+1)] (gS nt tm ps.toList as bo h).hp.get (h.nx+2) v h2.hp.get h2.nx)
  (hl:h2.hp.get (h.nx+1)=some (.loop nt' tm0 ps' as' bo' st gJ dd)) (hst:Dt st=true) (he:(gJ=none∧e= .normal)∨(gJ=some .ret∧e= .ret)∨(∃id,gJ=some (.exit id)∧e= .exit id))
  (hb:Bd h):da E nt (.rangeFunc fop ps as bo) tm mk h [⟨e,tm,.mark h.nx::mk,h2.put (h.nx+1) (.loop nt' tm0 ps' as' bo' .exhausted gJ dd)⟩]:=by
 have f0:=RB (nt:=nt) (tm:=tm) (ps:=ps.toList) (as:=as) (bo:=bo) hb;obtain ⟨f1,sem⟩:=hs f0.bd;have f3:=wS (o':=SO.loop nt' tm0 ps' as' bo' .exhausted gJ dd) f1.bd hl;refine ⟨by simp,fun o ho=> ?_,fun ro m g a w Q hok hro hE hfr hr hm hnx hk=> ?_⟩
 ·obtain rfl:=List.mem_singleton.1 ho;refine ⟨(f0.trans f1).trans f3,by simp,fun x hx=> ?_⟩
  rcases List.mem_cons.1 hx with hx|hx
  ·cases hx;exact .inr (Nat.le_refl _)
  ·exact .inl hx
 have hok:(codeOk as&&codeOk bo)=true:=hok;rw[Bool.and_eq_true] at hok;obtain ⟨ha,hbo⟩:=hok;have hro:ro=none:=by
  rcases hro with hh|hh
  ·exact hh
  ·have:=hh ⟨e,tm,.mark h.nx::mk,h2.put (h.nx+1) (.loop nt' tm0 ps' as' bo' .exhausted gJ dd)⟩ (by simp)
   simp at this
 subst hro;show (Code.rangeFunc fop ps as bo).wpIn (fro none) m E.P Q a w;refine wpIn_rangeFunc (fun fn _=> ?_)
 obtain ⟨r1,F1⟩:=HR.alloc (l:=0) (e:=0) hr (hnx h.nx (Nat.le_refl _)) (o':=.dfr) (w':=w.alloc (.deferred (some []))) rfl (World.alloc_heap_new _ _);have hn1:(g.bind h.nx (w.heap.size,0) 0 0).ρ (h.nx+1)=none:=by rw[Gh.dH _ _ _ _ (by omega)];exact hnx _ (by omega)
 have hs1:(w.alloc (.deferred (some []))).heap.size=w.heap.size+1:=by simp
 have ZZ:=Gh.si (p:=((w.alloc (.deferred (some []))).heap.size,0)) (l:=0) (e:=0) hn1;obtain ⟨r2,F2⟩:=HR.alloc (l:=0) (e:=0) r1 hn1 (o':=.loop nt tm ps.toList as bo .ready none h.nx) (w':=(w.alloc (.deferred (some []))).alloc (.loop {state:=.ready,pending:=none,fn:=fn,tmps:=a.tmps,params:=ps,assign:=as,body:=bo,defers:=w.heap.size})) rfl
  ⟨ha,hbo,_,World.alloc_heap_new _ _,rfl,rfl,rfl,rfl,rfl,hfr.mono (F1.le.trans ZZ),0,by
   rw[Gh.dH _ _ _ _ (by omega)];exact Gh.cX _ _ _ _ _⟩
 rw[←ov] at r2 F2;generalize hg2:(g.bind h.nx (w.heap.size,0) 0 0).bind (h.nx+1) ((w.alloc (.deferred (some []))).heap.size,0) 0 0=g2 at r2 F2 ZZ;have hρl:g2.ρ (h.nx+1)=some (w.heap.size+1,0):=by rw[←hg2,Gh.cX,hs1]
 have hρd:g2.ρ h.nx=some (w.heap.size,0):=ZZ.ρ _ _ (Gh.cX _ _ _ _ _);have hρo:∀x,x≠h.nx→x≠h.nx+1→g2.ρ x=g.ρ x:=fun x h1 h2=>by rw[←hg2,Gh.dH _ _ _ _ h2,Gh.dH _ _ _ _ h1]
 have hle:g.le g2:=F1.le.trans F2.le;obtain ⟨k,fi,ca,fn',rfl,hfn,fD⟩:=qP hgo;have hu:=(e9 hfr hgv).mono hle;generalize hae:a.eval fop=u at hu;cases hu with
 | @fn _ first cC _ _ hv1 hv2=>
 obtain ⟨d,hd1,hd2⟩:=sem (m-1) g2 ((w.alloc (.deferred (some []))).alloc (.loop {state:=.ready,pending:=none,fn:=fn,tmps:=a.tmps,params:=ps,assign:=as,body:=bo,defers:=w.heap.size})) _ [.func (.yield (w.heap.size+1)) #[] #[]] (hE.mono hle) r2 (fun x hx=>by rw[hρo x (by omega) (by omega)];exact hnx x (by omega)) (.fn hv1 hv2) (.cons (.yld hρl) .nil)
 have hd:d={target:=.fn (.func k) cC,args:=first++ #[.func (.yield (w.heap.size+1)) #[] #[]]}:=by
  rw[py] at hd1;cases hd1;rfl
 subst hd;have tF:∃as',(invoke (.fn (.func k) cC) (first++ #[.func (.yield (w.heap.size+1)) #[] #[]])).run E.P ((w.alloc (.deferred (some []))).alloc (.loop {state:=.ready,pending:=none,fn:=fn,tmps:=a.tmps,params:=ps,assign:=as,body:=bo,defers:=w.heap.size}))= .ok (.enter k as') ((w.alloc (.deferred (some []))).alloc (.loop {state:=.ready,pending:=none,fn:=fn,tmps:=a.tmps,params:=ps,assign:=as,body:=bo,defers:=w.heap.size}))∧
   CallsIn Fence.wide (m-1) E.P k as' ((w.alloc (.deferred (some []))).alloc (.loop {state:=.ready,pending:=none,fn:=fn,tmps:=a.tmps,params:=ps,assign:=as,body:=bo,defers:=w.heap.size})) fun e w'=>∃r,e=Bm false r∧∃g',VR g' r v∧HR g' h2.hp.get w'∧Fr g2 (gS nt tm ps.toList as bo h).hp.get ((w.alloc (.deferred (some []))).alloc (.loop {state:=.ready,pending:=none,fn:=fn,tmps:=a.tmps,params:=ps,assign:=as,body:=bo,defers:=w.heap.size})) g' h2.hp.get w'∧(∀x,x<h.nx+2→g'.ρ x=g2.ρ x)∧∀x,h2.nx≤x→g'.ρ x=none:=by
  have ea:∀(args:Array Value) (w:World),(invoke (.fn (.func k) cC) args).run E.P w=(callFunc k (args++cC)).run E.P w:=fun _ _=>rfl
  rcases fU (hS.fn k fn' hfn).1 fD (first++ #[.func (.yield (w.heap.size+1)) #[] #[]]++cC) ((w.alloc (.deferred (some []))).alloc (.loop {state:=.ready,pending:=none,fn:=fn,tmps:=a.tmps,params:=ps,assign:=as,body:=bo,defers:=w.heap.size})) with ⟨hc,_⟩|hc
  ·rcases hd2 with ⟨k',as',q1,q2⟩|⟨l,k',t',as',b',q1,_⟩|⟨r,w',q1,_⟩<;>(rw[ea,hc] at q1;cases q1)
  ·rcases hd2 with ⟨k',as',q1,q2⟩|⟨l,k',t',as',b',q1,_⟩|⟨r,w',q1,_⟩
   ·have q0:=q1;rw[ea,hc] at q1;cases q1;exact ⟨_,q0,q2⟩
   ·rw[ea,hc] at q1;cases q1
   ·rw[ea,hc] at q1;cases q1
 obtain ⟨as2,hinv,tF⟩:=tF;refine ⟨w.heap.size+1,[{target:=.collected w.heap.size,args:= #[]}],_,{target:=.fn (.func k) cC,args:=first++ #[.func (.yield (w.heap.size+1)) #[] #[]]},_,k,as2,_,run_enterLoop_outer _ _ _ _ _,?_,fun _ _=>trivial,hinv,fun h=>by simp[fro] at h,?_⟩
 ·have KN:(#[Operand.const (.func (.yield (w.heap.size+1)) #[] #[])]:Array Operand).map a.eval= #[.func (.yield (w.heap.size+1)) #[] #[]]:=by
   apply Array.ext';rw[Array.toList_map];rfl
  simp only[resolve,rangeCall];rw[KN,hae];rfl
 refine CallsIn.mono (F:=fro none) (show CallsIn (fro none) (m-1) E.P k as2 _ _ from tF) ?_;rintro e' w3 ⟨r,rfl,g3,hv3,hr3,hf3,hρ3,hn3⟩;obtain ⟨rec,q1,q2,q3,q4,q5⟩:=HR.loop hr3 hl (hf3.le.ρ _ _ hρl) .exhausted gJ;subst q3;refine ⟨rec.pending,_,run_endLoop q1 (by rw[q2];exact Qk hst),?_⟩
 rw[←Di] at q4 q5;have fin:=fun x hx=>hk ⟨e,tm,.mark h.nx::mk,h2.put (h.nx+1) (.loop nt' tm0 ps' as' bo' .exhausted rec.pending dd)⟩ (by simp) g3 {a with defers:= [{target:=.collected w.heap.size,args:= #[]}]++a.defers} _ x hx (hfr.mono (hle.trans hf3.le)) q4 (((F1.trans F2).trans hf3).trans q5) (.mark (hf3.le.ρ _ _ hρd) (hm.mono (hle.trans hf3.le))) hn3 (fun x hx=>by rw[hρ3 x (by omega),hρo x (by omega) (by omega)])
 rcases he with ⟨hp,rfl⟩|⟨hp,rfl⟩|⟨id,hp,rfl⟩
 ·have fin:=fin _ .normal;rw[hp] at fin ⊢;exact fin
 ·have fin:=fin _ .ret;rw[hp] at fin ⊢;exact wpIn_ret fin
 ·have fin:=fin _ (.exit id);rw[hp] at fin ⊢;exact wpIn_exit fin
theorem Y7 {r:Out} {k kp:SV→Hs→Out} {Q:Out→Prop} (hf:∀s,Q (.fail s)) (ht:∀a b c,Q (.g8 a b c)) (hr:∀v h2,r= .res v h2→Q (k v h2)) (hp:∀v h2,r= .pan v h2→Q (kp v h2)):Q (Dp r k kp):=by
 cases r with
 |bM l=>
  cases l with
  |nil=>exact hf _
  |cons r l=>
   cases l with
   |nil=>
    obtain ⟨pan,v,h2⟩:=r;cases pan with
    |false=>exact hr v h2 rfl
    |true=>exact hp v h2 rfl
   |cons _ _=>exact hf _
 |fail s=>exact hf _
 |g8 a b c=>exact ht _ _ _
 |_=>exact hf _
theorem Nr (hS:jk E) {rec:Job→Out} (cu:∀j,Sound E j (rec j)) (nt:Nat) (fop:Operand) (ps:Array Nat) (as bo:Code) (tm:Tr SV) (mk:List Dm) (h:Hs):
  Sound E (.code nt (.rangeFunc fop ps as bo) tm mk h) (JQ E rec nt (aK tm.get fop) ps.toList as bo tm mk h):=by
 unfold JQ;cases hg:aK tm.get fop with
 |none=>trivial
 |some gv=>
  show Sound E _ (sel (tG E gv) (Dp (rec (.call gv [.yld (h.nx+1)] (gS nt tm ps.toList as bo h))) (fun _ h2=>zD (h.nx+1) h.nx tm mk h2) fun _ _=>.fail "panic in a range") (.fail "rangeFunc"))
  rw[aB];split;rotate_left
  ·trivial
  rename_i hgo;refine Y7 (Q:=Sound E _) (fun _=>trivial) (fun _ _ _=>trivial) (fun v h2 hv=> ?_) (fun _ _ _=>trivial)
  have hs:=cu (.call gv [.yld (h.nx+1)] (gS nt tm ps.toList as bo h));rw[hv] at hs;have hs:Bd (gS nt tm ps.toList as bo h)→ [(⟨false,v,h2⟩:Rs)]≠ []∧(∀r∈ [(⟨false,v,h2⟩:Rs)],Fac (gS nt tm ps.toList as bo h) r.h)∧jS E gv [.yld (h.nx+1)] (gS nt tm ps.toList as bo h).hp.get (h.nx+2) [⟨false,v,h2⟩]:=hs;have hs:Bd (gS nt tm ps.toList as bo h)→Fac (gS nt tm ps.toList as bo h) h2∧ju E false gv [.yld (h.nx+1)] (gS nt tm ps.toList as bo h).hp.get (h.nx+2) v h2.hp.get h2.nx:=fun hb=>⟨(hs hb).2.1 ⟨false,v,h2⟩ (by simp),(hs hb).2.2.one⟩
  unfold zD;split;rotate_left
  ·trivial
  rename_i nt' tm0 ps' as' bo' st gJ dd hl;rw[aB];split;rotate_left
  ·trivial
  rename_i hst;have key:∀e,((gJ=none∧e= .normal)∨(gJ=some .ret∧e= .ret)∨(∃id,gJ=some (.exit id)∧e= .exit id))→Sound E (.code nt (.rangeFunc fop ps as bo) tm mk h) (.code e tm (.mark h.nx::mk) (h2.put (h.nx+1) (.loop nt' tm0 ps' as' bo' .exhausted gJ dd))):=by
   intro e he hb;exact P9 hS hgo hg hs hl hst he hb
  exact Xr (Q:=Sound E _) (fun _=>trivial) (fun hp=>key _ (.inl ⟨hp,rfl⟩)) (fun hp=>key _ (.inr (.inl ⟨hp,rfl⟩))) (fun id hp=>key _ (.inr (.inr ⟨id,hp,rfl⟩)))
theorem nZ {e:Ex} {tm:Tr SV} {mk:List Dm} {h:Hs} {k:Tr SV→List Dm→Hs→Out} {r:List Oc} (hs:seqE e tm mk h k= .aR r):(e= .normal∧k tm mk h= .aR r)∨(e≠ .normal∧r= [⟨e,tm,mk,h⟩]):=by
 cases e with
 |normal=>exact .inl ⟨rfl,hs⟩
 |exit id=>cases hs;exact .inr ⟨fun e=>(by cases e),rfl⟩
 |ret=>cases hs;exact .inr ⟨fun e=>(by cases e),rfl⟩
 |pan v=>cases hs;exact .inr ⟨fun e=>(by cases e),rfl⟩
theorem zX (hS:jk E) {rec:Job→Out} (cu:∀j,Sound E j (rec j)) (nt:Nat) (c:Code) (tm:Tr SV) (mk:List Dm) (h:Hs):Sound E (.code nt c tm mk h) (adZ c E rec nt tm mk h):=by
 cases c with
 |skip=>exact fun hb=>da.calm .normal (fun _=>.normal) hb fun ro m Q a w hq=>wpIn_skip hq
 |ret=>exact fun hb=>da.calm .ret (fun _=>.ret) hb fun ro m Q a w hq=>wpIn_ret hq
 |exit id=>exact fun hb=>da.calm (.exit id) (fun _=>.exit id) hb fun ro m Q a w hq=>wpIn_exit hq
 |region id ops draw=>
  cases draw with
  |false=>
   show Sound E _ (rec (.ops nt ops.toList ops.toList tm mk h));have hs:=cu (.ops nt ops.toList ops.toList tm mk h);cases hr:rec (.ops nt ops.toList ops.toList tm mk h) with
   |aR r=>
    rw[hr] at hs;intro hb;exact da.ops (hs ops rfl (by simp) hb)
   |_=>trivial
  |true=>
   show Sound E _ (stK (rec (.draw nt ops.size ops.toList h.nx 0 0 [] ops.toList tm ⟨h.hp,Nat.add h.nx ops.size,h.lg⟩)) (fun e tm' _ h'=>.code e tm' mk h') fun tm' h'=>.code .normal tm' mk h')
   have hs:=cu (.draw nt ops.size ops.toList h.nx 0 0 [] ops.toList tm ⟨h.hp,Nat.add h.nx ops.size,h.lg⟩);cases hr:rec (.draw nt ops.size ops.toList h.nx 0 0 [] ops.toList tm ⟨h.hp,Nat.add h.nx ops.size,h.lg⟩) with
   |st tm1 h1=>
    rw[hr] at hs;intro hb;obtain ⟨f1,out,hd⟩:=hs ops rfl rfl (by simp) (Nat.le_refl _) (fun x hx=>hb x (Nat.le_trans (Nat.le_add_right _ _) hx)) (fun x hx hc=>hx (hb x (by omega))) (rT.zero _ _) (fun p hp=>by simp at hp) [] rfl
    exact da.draw f1 hd
   |aR r=>
    rw[hr] at hs;have hs:Sound E (.draw nt ops.size ops.toList h.nx 0 0 [] ops.toList tm ⟨h.hp,Nat.add h.nx ops.size,h.lg⟩) (.aR r):=hs;cases bf:stK (.aR r) (fun e tm' _ h'=>.code e tm' mk h') fun tm' h'=>.code .normal tm' mk h' with
    |aR r2=>
     intro hb;obtain ⟨v,tm',dm,h',rfl,f1,l0,o,out,F1,nx1,e1,d1,d2⟩:=hs ops rfl rfl (by simp) (Nat.le_refl _) (fun x hx=>hb x (Nat.le_trans (Nat.le_add_right _ _) hx)) (fun x hx hc=>hx (hb x (by omega))) (rT.zero _ _) (fun p hp=>by simp at hp) [] rfl
     cases (show Out.aR [⟨.pan v,tm',mk,h'⟩]= .aR r2 from bf);exact da.afm f1 e1 d1 d2
    |_=>trivial
   |_=>trivial
 |seq a b=>
  show Sound E _ (ru (rec (.code nt a tm mk h)) fun tm' mk' h'=>rec (.code nt b tm' mk' h'))
  cases bf:ru (rec (.code nt a tm mk h)) fun tm' mk' h'=>rec (.code nt b tm' mk' h') with
  |aR r=>
   obtain ⟨l1,h1,h2⟩:=pt bf;obtain ⟨_,q1,q2⟩:=j9 h2;have hs:=cu (.code nt a tm mk h);rw[h1] at hs;intro hb;have k1:=hs hb;have sub:∀(o:Oc) r',o∈l1→rec (.code nt b o.tm o.dm o.h)= .aR r'→da E nt b o.tm o.dm o.h r':=fun o r' ho hr'=>by
    have:=cu (.code nt b o.tm o.dm o.h);rw[hr'] at this;exact this (k1.2.1 o ho).1.bd
   refine k1.seq (fun o ho=> ?_) (fun x hx=> ?_)
   ·obtain ⟨r',e1,e2⟩:=q1 o ho;rcases nZ e1 with ⟨he,hr'⟩|⟨he,rfl⟩
    ·exact .inl ⟨he,r',sub o r' ho hr',e2⟩
    ·exact .inr ⟨he,e2 _ (by simp)⟩
   ·obtain ⟨o,ho,r',e1,e2⟩:=q2 x hx;rcases nZ e1 with ⟨he,hr'⟩|⟨he,rfl⟩
    ·exact ⟨o,ho,.inl ⟨r',sub o r' ho hr',e2⟩⟩
    ·exact ⟨o,ho,.inr (List.mem_singleton.1 e2)⟩
  |_=>trivial
 |cond c a b=>
  show Sound E _ (BA (aK tm.get c) (rec (.code nt a tm mk h)) (rec (.code nt b tm mk h)));unfold BA;cases hv:ah (aK tm.get c) gV with
  |none=>trivial
  |some t=>
   obtain ⟨x,h1,h2⟩:=ae hv;obtain rfl:=kF h2;have hev:∀(g:Gh) (ac:Act),FR g nt tm.get ac.tmps→ac.eval c= .bool t:=fun g ac hfr=>by
    have:=e9 hfr h1;generalize ac.eval c=u at this;cases this;rfl
   show Sound E _ (sel t (rec (.code nt a tm mk h)) (rec (.code nt b tm mk h)));cases t with
   |true=>
    show Sound E _ (rec (.code nt a tm mk h));have hs:=cu (.code nt a tm mk h);cases hr:rec (.code nt a tm mk h) with
    |aR r=>
     rw[hr] at hs;intro hb;obtain ⟨n1,f1,s1⟩:=hs hb;exact ⟨n1,f1,fun ro m g ac w Q hok hro hE hfr hrr hm hnx hk=>wpIn_cond_true (hev g ac hfr) (ku (s1 ro m g ac w Q (okL hok) hro hE hfr hrr hm hnx hk))⟩
    |_=>trivial
   |false=>
    show Sound E _ (rec (.code nt b tm mk h));have hs:=cu (.code nt b tm mk h);cases hr:rec (.code nt b tm mk h) with
    |aR r=>
     rw[hr] at hs;intro hb;obtain ⟨n1,f1,s1⟩:=hs hb;exact ⟨n1,f1,fun ro m g ac w Q hok hro hE hfr hrr hm hnx hk=>wpIn_cond_false (hev g ac hfr) (ku (s1 ro m g ac w Q (okR hok) hro hE hfr hrr hm hnx hk))⟩
    |_=>trivial
 |block id c=>
  show Sound E _ (BJ id (rec (.code nt c tm mk h)));cases bf:BJ id (rec (.code nt c tm mk h)) with
  |aR r=>
   obtain ⟨l1,h1,h2⟩:=pt bf;obtain ⟨_,q1,q2⟩:=j9 h2;have hs:=cu (.code nt c tm mk h);rw[h1] at hs;intro hb;refine (hs hb).block (fun x=>⟨fun hx=> ?_,fun ⟨o,ho,hx⟩=> ?_⟩)
   ·obtain ⟨o,ho,r',e1,e2⟩:=q2 x hx;cases e1;exact ⟨o,ho,List.mem_singleton.1 e2⟩
   ·obtain ⟨r',e1,e2⟩:=q1 o ho;cases e1;subst hx;exact e2 _ (by simp)
  |_=>trivial
 |loop c=>
  show Sound E _ (ru (rec (.code nt c tm mk h)) fun tm' mk' h'=>rec (.code nt (.loop c) tm' mk' h'))
  cases bf:ru (rec (.code nt c tm mk h)) fun tm' mk' h'=>rec (.code nt (.loop c) tm' mk' h') with
  |aR r=>
   obtain ⟨l1,h1,h2⟩:=pt bf;obtain ⟨_,q1,q2⟩:=j9 h2;have hs:=cu (.code nt c tm mk h);rw[h1] at hs;intro hb;have k1:=hs hb;have sub:∀(o:Oc) r',o∈l1→rec (.code nt (.loop c) o.tm o.dm o.h)= .aR r'→da E nt (.loop c) o.tm o.dm o.h r':=fun o r' ho hr'=>by
    have:=cu (.code nt (.loop c) o.tm o.dm o.h);rw[hr'] at this;exact this (k1.2.1 o ho).1.bd
   refine k1.loop (fun o ho=> ?_) (fun x hx=> ?_)
   ·obtain ⟨r',e1,e2⟩:=q1 o ho;rcases nZ e1 with ⟨he,hr'⟩|⟨he,rfl⟩
    ·exact .inl ⟨he,r',sub o r' ho hr',e2⟩
    ·exact .inr ⟨he,e2 _ (by simp)⟩
   ·obtain ⟨o,ho,r',e1,e2⟩:=q2 x hx;rcases nZ e1 with ⟨he,hr'⟩|⟨he,rfl⟩
    ·exact ⟨o,ho,.inl ⟨r',sub o r' ho hr',e2⟩⟩
    ·exact ⟨o,ho,.inr (List.mem_singleton.1 e2)⟩
  |_=>trivial
 |rangeFunc fop ps as bo=>exact Nr hS cu nt fop ps as bo tm mk h
 |_=>trivial
end
section
variable {E:Env} {g:Gh} {f:Hf} {w:World}
theorem HR.grow (h:HR g f w) {w':World} (hsz:w.heap.size≤w'.heap.size) (hs:∀b,b<w.heap.size→w'.heap[b]? =w.heap[b]?):HR g f w':=
 ⟨fun id o ho=>let ⟨b,c,q1,q2,q3⟩:=h.ob id o ho;⟨b,c,q1,Nat.lt_of_lt_of_le q2 hsz,q3.mono (.refl _) q1 (hs b q2)⟩,h.inj⟩
theorem HR.drop (h:HR g f w) {d r c:Nat} {o:SO} {w':World} (hd:f d=some o) (hρ:g.ρ d=some (r,c)) (hsz:w'.heap.size=w.heap.size) (vE:∀k,k≠r→w'.heap[k]? =w.heap[k]?) (h1:w'.os=w.os) (h2:w'.tape=w.tape) (h3:w'.output=w.output):
  HR g (upF f (d,none)) w'∧Fr g f w g (upF f (d,none)) w':=by
 have key:∀k z,upF f (d,none) k=some z→k≠d∧f k=some z:=by
  intro k z hz;simp only[upF] at hz;split at hz
  ·simp at hz
  ·rename_i hk;exact ⟨hk,hz⟩
 refine ⟨⟨fun id x hx=> ?_,fun i j x y b c d hx hy e1 e2=>h.inj i j x y b c d (key i x hx).2 (key j y hy).2 e1 e2⟩,⟨h1,h2,h3,by omega,.refl _,fun b hb hn=>vE b (fun e=>hn (by subst e;exact ⟨d,o,c,hd,hρ⟩)),fun b hb ⟨j,x,c',hx,hj⟩=>⟨j,x,c',(key j x hx).2,hj⟩⟩⟩
 obtain ⟨hne,hx⟩:=key id x hx;obtain ⟨b,c',q1,q2,q3⟩:=h.ob id x hx;refine ⟨b,c',q1,by omega,q3.mono (.refl _) q1 (vE b (fun e=> ?_))⟩
 subst e;exact hne (h.inj id d x o b c' c hx hd q1 hρ)
def JM (a:Act):ResultVar→Go.Sem Value
 | .tmp t=>pure (a.tmps.getD t undef)
 | .cell k t=>do loadVar t (←asAddr (a.tmps.getD k undef))
theorem Nq (hE:bu E g) (h:HR g f w) {nt:Nat} {T:Tf} {a:Act} (hfr:FR g nt T a.tmps) {rv:ResultVar} {x:SV} (hx:An E T f rv=some x):∃v,(JM a rv).run E.P w= .ok v w∧VR g v x:=by
 cases rv with
 |tmp t=>exact ⟨_,rfl,hfr.tm t x hx⟩
 |cell k t=>
  obtain ⟨y,hy,hl⟩:=ae (show ah (T k) (ig E f t)=some x from hx);have hu:=hfr.tm k y hy;obtain ⟨v,hv,hvr⟩:=AL hE h hu hl;obtain ⟨q,h1,_⟩:=ae hl;obtain rfl:=gy h1;refine ⟨v,?_,hvr⟩;generalize hz:a.tmps.getD k undef=z at hu hv;cases hu with
  |ptr hρ=>
   simp only[Instr.loadAt,Instr.sureAddr,Sem.run_bind,Sem.run_pure,Result.andThen_ok] at hv;simp only[JM,hz,asAddr,Sem.run_bind,Sem.run_pure,Result.andThen_ok];exact hv
theorem vi (hE:bu E g) (h:HR g f w) {nt:Nat} {T:Tf} {a:Act} (hfr:FR g nt T a.tmps):∀{rvs:List ResultVar} {xs:List SV},fV E T f rvs=some xs→∃vs,(rvs.mapM (JM a)).run E.P w= .ok vs w∧VRs g vs xs
 | [],xs,hx=>by cases hx;exact ⟨[],by simp,.nil⟩
 |rv::rvs,xs,hx=>by
  obtain ⟨x,l,h1,h2,hx⟩:=ay (show aH (An E T f rv) (fV E T f rvs) (fun v l=>some (v::l))=some xs from hx)
  cases hx;obtain ⟨v,hv1,hv2⟩:=Nq hE h hfr h1;obtain ⟨vs,hs1,hs2⟩:=vi hE h hfr h2;refine ⟨v::vs,?_,.cons hv2 hs2⟩;rw[List.mapM_cons];simp only[Sem.run_bind];rw[hv1];simp only[Result.andThen_ok];rw[hs1];simp
theorem vh (hE:bu E g) (h:HR g f w) {fn:Func} {nt:Nat} {T:Tf} {a:Act} (hfr:FR g nt T a.tmps) {xs:List SV} (hx:fV E T f fn.results.toList=some xs):∃v,(results fn a.tmps).run E.P w= .ok v w∧VR g v (oneOf xs):=by
 obtain ⟨vs,h1,h2⟩:=vi hE h hfr hx;refine ⟨if h:vs.toArray.size=1 then vs.toArray[0] else .tuple vs.toArray,?_,?_⟩
 ·have e:∀f:ResultVar→Go.Sem Value,(∀x,f x=JM a x)→fn.results.mapM f=fn.results.mapM (JM a):=fun f hf=>by rw[funext hf]
  unfold results;rw[e _ (fun x=>by cases x<;>rfl)]
  rw[←Array.toArray_toList (xs:=fn.results),List.mapM_toArray];simp only[Sem.run_bind,Sem.run_map];rw[h1];simp
 ·cases h2 with
  |nil=>exact .tup (by simpa using .nil)
  | @cons v x vs' xs' hv ht=>
   cases ht with
   |nil=>simpa[oneOf] using hv
   | @cons v2 x2 vs2 xs2 hv2 ht2=>
    have:¬(v::v2::vs2).toArray.size=1:=by simp
    rw[dif_neg this];exact .tup (by simpa using .cons hv (.cons hv2 ht2))
theorem rq:∀(vs:List SV) (i:Nat) (t:Tr SV) (j:Nat),(setArgs vs i t).get j=if i≤j∧j<i+vs.length then vs[j-i]? else t.get j
 | [],i,t,j=>by
  have:¬(i≤j∧j<i+([]:List SV).length):=by simp
  rw[if_neg this];rfl
 |v::vs,i,t,j=>by
  have e:setArgs (v::vs) i t=setArgs vs (i+1) (t.set i (some v)):=rfl;rw[e,rq vs (i+1) _ j,Tr.bU];by_cases h1:j=i
  ·subst h1;rw[if_neg (by omega),if_pos rfl,if_pos (by simp)]
   simp
  ·by_cases h2:i+1≤j∧j<i+1+vs.length
   ·rw[if_pos h2,if_pos (by simp;omega)]
    have:j-i=(j-(i+1))+1:=by omega
    rw[this,List.getElem?_cons_succ]
   ·rw[if_neg h2,if_neg h1,if_neg (by simp;omega)]
theorem FR.args {us:List Value} {as:List SV} (h:VRs g us as) {nt:Nat} (hn:as.length≤nt):FR g nt (setArgs as 0 .nil).get (us.toArray++Array.replicate (nt-us.toArray.size) undef):=by
 have hl:=h.length;refine ⟨by simp;omega,fun t x hx=> ?_⟩
 rw[rq] at hx;split at hx
 ·rename_i hc;obtain ⟨v,h1,h2⟩:=h.get hx;have hlt:t<us.length:=by omega
  have e:(us.toArray++Array.replicate (nt-us.toArray.size) undef).getD t undef=v:=by
   rw[Array.getD_eq_getD_getElem?,Array.getElem?_append_left (by simpa using hlt)]
   simp only[Nat.sub_zero] at h1;simp[h1]
  rw[e];exact h2
 ·cases hx
theorem rY {nt:Nat}:∀{ps:List Nat} {as:List SV} {tm tm1:Tr SV} {tmps:Array Value} {us:List Value},na nt tm ps as=some tm1→VRs g us as→FR g nt tm.get tmps→us.length=ps.length∧FR g nt tm1.get ((ps.zip us).foldl (fun tmps p=>tmps.setIfInBounds p.1 p.2) tmps)
 | [],[],tm,tm1,tmps,us,h,hu,hfr=>by
  cases h;cases hu;exact ⟨rfl,hfr⟩
 |p::ps,v::as,tm,tm1,tmps,us,h,hu,hfr=>by
  cases hu with
  | @cons u _ us' _ hv ht=>
   obtain ⟨hp,h⟩:=aq (show sel (Nat.ble (Nat.succ p) nt) (na nt (tm.set p (some v)) ps as) none=some tm1 from h);have hp:p<tmps.size:=by rw[hfr.sz];exact (bk _ _).1 hp
   obtain ⟨q1,q2⟩:=rY (tmps:=tmps.setIfInBounds p u) h ht ⟨by simp[hfr.sz],fun t x hx=>by
    rw[Tr.bU] at hx;split at hx
    ·rename_i e;subst e;cases hx;have:(tmps.setIfInBounds t u).getD t undef=u:=by
      rw[Array.getD_eq_getD_getElem?,Array.getElem?_setIfInBounds_self_of_lt hp];rfl
     rw[this];exact hv
    ·rename_i e;have:(tmps.setIfInBounds p u).getD t undef=tmps.getD t undef:=by
      rw[Array.getD_eq_getD_getElem?,Array.getElem?_setIfInBounds_ne (fun e'=>e e'.symm),←Array.getD_eq_getD_getElem?]
     rw[this];exact hfr.tm t x hx⟩
   exact ⟨by simp[q1],q2⟩
 | [],_::_,tm,tm1,tmps,us,h,_,_=>by cases h
 |_::_,[],tm,tm1,tmps,us,h,_,_=>by cases h
theorem QR {s:LoopState} (h:isReady s=true):s= .ready:=by cases s<;>first|rfl|cases h
theorem yE {e:Ex} (h:dY e=true):e= .normal:=by cases e<;>first|rfl|cases h
theorem P4 {nt nt1 nt3 l dd dd1 dd3:Nat} {tm0 tm1 tm2 tm3 HU yQ:Tr SV} {ps ps1 ps3:List Nat} {as bo as1 bo1 as3 bo3:Code} {gJ wV acu:Option Code} {st st3:LoopState} {h h1 h3:Hs} {args:List SV} {e3:Ex} (hb:Bd h)
  (hl:h.hp.get l=some (.loop nt tm0 ps as bo st gJ dd)) (hp:na nt tm0 ps args=some tm1) (k1:da E nt as tm1 [] h [⟨.normal,tm2,[],h1⟩]) (hl1:h1.hp.get l=some (.loop nt1 HU ps1 as1 bo1 .ready wV dd1))
  (k2:da E nt bo tm2 [] (h1.put l (.loop nt1 HU ps1 as1 bo1 .busy wV dd1)) [⟨e3,tm3,[],h3⟩]) (hnp:acy e3=true) (hl3:h3.hp.get l=some (.loop nt3 yQ ps3 as3 bo3 st3 acu dd3)):
  Fac h (h3.put l (.loop nt3 yQ ps3 as3 bo3 (sel (exJ e3).isNone .ready .done) (exJ e3) dd3))∧ju E false (.yld l) args h.hp.get h.nx (.bool (exJ e3).isNone) (h3.put l (.loop nt3 yQ ps3 as3 bo3 (sel (exJ e3).isNone .ready .done) (exJ e3) dd3)).hp.get h3.nx:=by
 obtain ⟨_,f1,s1⟩:=k1;have f1:Fac h h1:=(f1 _ (List.mem_singleton.2 rfl)).1;have fp:=wS (o':=SO.loop nt1 HU ps1 as1 bo1 .busy wV dd1) f1.bd hl1;obtain ⟨_,f2,s2⟩:=k2;have f2:Fac _ h3:=(f2 _ (List.mem_singleton.2 rfl)).1;have f3:=wS (o':=SO.loop nt3 yQ ps3 as3 bo3 (sel (exJ e3).isNone .ready .done) (exJ e3) dd3) f2.bd hl3;refine ⟨((f1.trans fp).trans f2).trans f3,fun m g w u us hE hr hnx hu hus=> ?_⟩
 cases hu with
 | @yld _ b o hρ=>
 obtain ⟨hlt,hor⟩:=hr.at hl hρ;obtain ⟨c1,c2,r,q1,q2,q3,q4,q5,q6,q7,o',q8⟩:=hor;obtain ⟨hlen,hfr⟩:=rY hp hus q7;subst q4;subst q5;subst q6;have hsz:us.toArray.size=r.params.size:=by simpa using hlen
 have htm:((r.params.zip us.toArray).foldl (fun tmps (t,a)=>tmps.setIfInBounds t a) r.tmps)=(r.params.toList.zip us).foldl (fun tmps p=>tmps.setIfInBounds p.1 p.2) r.tmps:=by
  rw[←Array.foldl_toList,Array.toList_zip]
 refine ⟨{target:=.fn (.yield b) #[],args:= #[]++us.toArray},rfl,.inr (.inl ⟨b,r.fn,(r.params.zip us.toArray).foldl (fun tmps (t,a)=>tmps.setIfInBounds t a) r.tmps,r.assign,r.body,?_,?_⟩)⟩
 ·show (Instr.yield b (#[]++us.toArray)).run E.P w=_;rw[Array.empty_append];exact run_yield q1 hsz
 rw[htm];refine roundIn_of_wpIn (F:=Fence.wide) trivial (ku ?_);refine s1 (some b) m g {tmps:=_,defers:= []} w _ c1 (.inr fun o ho=>by obtain rfl:=List.mem_singleton.1 ho;rfl) hE hfr hr .nil hnx (fun o ho g1 a1 w1 x p0 p1 p2 p3 p4 p5 p6=> ?_)
 obtain rfl:=List.mem_singleton.1 ho;cases p0;obtain ⟨r1,t1,t2,t3,t4,t5⟩:=HR.loop p2 hl1 (p3.le.ρ _ _ hρ) .busy wV;subst t3;refine ⟨_,run_beginRound t1 t2,ku ?_⟩;rw[←Di] at t4 t5;refine s2 (some b) m g1 a1 _ _ c2 (.inr fun o ho=>by obtain rfl:=List.mem_singleton.1 ho;rfl) (hE.mono p3.le) p1 t4 p4 p5 (fun o ho g2 a2 w2 x v0 v1 v2 v3 v4 v5 v6=> ?_)
 obtain rfl:=List.mem_singleton.1 ho;obtain ⟨r2,y1,y2,y3,y4,y5⟩:=HR.loop v2 hl3 (v3.le.ρ _ _ (p3.le.ρ _ _ hρ)) (sel (exJ e3).isNone .ready .done) (exJ e3);rw[←Di] at y4 y5;have fin:∃v w',(Instr.endRound b (exJ e3)).run E.P w2= .ok v w'∧∃r',Ending.returned v=Bm false r'∧∃g',VR g' r' (.bool (exJ e3).isNone)∧HR g' (h3.put l (.loop nt3 yQ ps3 as3 bo3 (sel (exJ e3).isNone .ready .done) (exJ e3) dd3)).hp.get w'∧
   Fr g h.hp.get w g' (h3.put l (.loop nt3 yQ ps3 as3 bo3 (sel (exJ e3).isNone .ready .done) (exJ e3) dd3)).hp.get w'∧(∀x,x<h.nx→g'.ρ x=g.ρ x)∧∀x,h3.nx≤x→g'.ρ x=none:=by
  refine ⟨_,_,run_endRound _ y1,_,rfl,g2,.bool _,?_,?_,fun x hx=> ?_,v5⟩
  ·rw[aB] at y4 ⊢;exact y4
  ·rw[aB] at y5 ⊢;exact ((p3.trans t5).trans v3).trans y5
  ·rw[v6 x (Nat.lt_of_lt_of_le hx f1.nx),p6 x hx]
 cases v0 with
 |normal=>exact fin
 |ret=>exact fin
 |exit id=>exact fin
 |pan hv=>cases hnp
theorem ju.calls {pan:Bool} {fv:SV} {as:List SV} {H:Hf} {nx:Nat} {v:SV} {h':Hs} (h:ju E pan fv as H nx v h'.hp.get h'.nx):jS E fv as H nx [⟨pan,v,h'⟩]:=
 fun m g w u us hE hr hnx hu hus=>(h m g w u us hE hr hnx hu hus).mono fun e w' ⟨r,q1,g',q2,q3,q4,q5,q6⟩=>⟨_,List.mem_singleton.2 rfl,r,g',q1,q2,q3,q4,q5,q6⟩
theorem LD {fv:SV} {as:List SV} {h:Hs} {r:Rs} (h1:Bd h→Fac h r.h∧ju E r.pan fv as h.hp.get h.nx r.v r.h.hp.get r.h.nx):Sound E (.call fv as h) (.bM [r]):=by
 intro hb;obtain ⟨q1,q2⟩:=h1 hb;refine ⟨by simp,fun r' hr=> ?_,q2.calls⟩
 obtain rfl:=List.mem_singleton.1 hr;exact q1
theorem J8 {r:Out} {k:Ex→Tr SV→List Dm→Hs→Out} {Q:Out→Prop} (hf:∀s,Q (.fail s)) (ht:∀a b c,Q (.g8 a b c)) (hr:∀e tm mk h,r= .code e tm mk h→Q (k e tm mk h)):Q (Y8 r k):=by
 cases r with
 |aR l=>
  cases l with
  |nil=>exact hf _
  |cons o l=>
   cases l with
   |nil=>exact hr o.e o.tm o.dm o.h rfl
   |cons _ _=>exact hf _
 |fail s=>exact hf _
 |g8 a b c=>exact ht _ _ _
 |_=>exact hf _
theorem Ni {rec:Job→Out} (cu:∀j,Sound E j (rec j)) (l:Nat) (as:List SV) (h:Hs):Sound E (.call (.yld l) as h) (HN rec l (h.hp.get l) as h):=by
 unfold HN;split;rotate_left
 ·trivial
 rename_i nt tm0 ps as' bo st gJ dd hl;rw[aB];split;rotate_left
 ·trivial
 unfold U5;split
 ·trivial
 rename_i tm1 hp;refine J8 (Q:=Sound E _) (fun _=>trivial) (fun _ _ _=>trivial) (fun e tm2 mk2 h1 he=> ?_)
 have hs1:=cu (.code nt as' tm1 [] h);rw[he] at hs1;rw[aB];split;rotate_left
 ·trivial
 rename_i hn;obtain rfl:=yE hn;unfold aed;split;rotate_left
 ·trivial
 rename_i nt1 HU ps1 as1 bo1 st1 wV dd1 hl1;split;rotate_left
 ·trivial
 rw[aB];split;rotate_left
 ·trivial
 rename_i hrd;obtain rfl:=QR hrd;unfold JK;refine J8 (Q:=Sound E _) (fun _=>trivial) (fun _ _ _=>trivial) (fun e3 tm3 mk3 h3 he3=> ?_)
 have hs2:=cu (.code nt bo tm2 [] (h1.put l (.loop nt1 HU ps1 as1 bo1 .busy wV dd1)));rw[he3] at hs2;split;rotate_left
 ·trivial
 rw[aB];split;rotate_left
 ·trivial
 rename_i hnp;unfold finK;split;rotate_left
 ·trivial
 rename_i nt3 yQ ps3 as3 bo3 st3 acu dd3 hl3;refine LD (fun hb=> ?_)
 have k1:=hs1 hb;exact P4 hb hl hp k1 hl1 (hs2 (wS (k1.2.1 _ (List.mem_singleton.2 rfl)).1.bd hl1).bd) hnp hl3
def ug (g:Gh) (u:Option SV) (um:FrameMode):Prop:=
 match u with
 |none=>um= .returning
 |some v=>∃x,um= .panicking [{v:=x,recovered:=false}]∧VR g x v
theorem ug.mono {g g':Gh} (hle:g.le g') {u:Option SV} {um:FrameMode} (h:ug g u um):ug g' u um:=by
 cases u with
 |none=>exact h
 |some v=>obtain ⟨x,h1,h2⟩:=h;exact ⟨x,h1,h2.mono hle⟩
theorem ug.W4 {u:Option SV} {um:FrameMode} (h:ug g u um):um≠ .run:=by
 cases u with
 |none=>rw[show um= .returning from h];simp
 |some v=>obtain ⟨x,h1,_⟩:=h;rw[h1];simp
theorem DC {o:Oper} (h:nm o=true):∃c,o.op= .call c∧c.callee= .builtin .recover∧o.guard=none:=by
 unfold nm at h;split at h
 ·rename_i c hop hg;split at h
  ·rename_i hc;exact ⟨c,hop,hc,hg⟩
  ·cases h
 ·cases h
theorem sP {n:Nat} {P:Program} {id:Nat} {ops:Array Oper} {Q:Exit→Act→List Frame→World→Prop} {a:Act} {cs cs':List Frame} {w:World} {o:Oper} {v:Value} (ho:ops[0]? =some o) (hrc:nm o=true)
  (hv:recoverD cs=some (v,cs')∨(recoverD cs=none∧v= .nilIface∧cs'=cs)) (h:wpOpsIn (fro none) n P ops (fun e a' w'=>Q e a' cs' w') (List.range' 1 (ops.size-1)) (a.put o.dst v) w):(Code.region id ops false).wpSIn Fence.wide n P Q a cs w:=by
 intro b k hb hro hF m5;obtain ⟨c,hop,lp,hg⟩:=DC hrc;have hlen:cs'.length=cs.length:=by
  rcases hv with hv|⟨_,_,rfl⟩
  ·exact recoverD_length hv
  ·rfl
 have hsz:0<ops.size:=by
  by_cases h0:0<ops.size
  ·exact h0
  ·rw[Array.getElem?_eq_none (by omega)] at ho;cases ho
 have KM:List.range ops.size=0::List.range' 1 (ops.size-1):=by
  rw[List.range_eq_range'];have:ops.size=(ops.size-1)+1:=by omega
  rw[this,List.range'_succ];rfl
 have aiS:Region.wanted o (yielded ops a.tmps)=true:=by simp[Region.wanted,hg]
 have h0:(lone (b.atR a (.inRegion ops (0::List.range' 1 (ops.size-1))::k)) cs w).fenced P Fence.wide:=fenced_oper hF m5 ho (fun _ _=>trivial)
 have hgo:=stepGR_op (P:=P) (b:=b) (a:=a) (k:=k) (cs:=cs) (w:=w) (rest:=List.range' 1 (ops.size-1)) ho aiS;rw[hro,Oper.semAt_none] at hgo;have KR:∀v,(b.atR a (.inRegion ops (0::List.range' 1 (ops.size-1))::k)).finish v=b.atR (a.put o.dst v) (.inRegion ops (List.range' 1 (ops.size-1))::k):=by
  intro v;rw[Frame.finish_atR,ho];rfl
 have hr:(execOp a.eval o).run P w= .ok .recover w:=by
  simp[execOp,hop,resolve,lp,invoke,builtin,Sem.run_bind,Sem.run,Result.andThen]
 have hk:(b.atR a (.inRegion ops (0::List.range' 1 (ops.size-1))::k)).kind= .deferred:=hb;have htr:=tryRecover_deferred hk cs;have tA:Go.step P (lone (b.atR a (.inRegion ops (0::List.range' 1 (ops.size-1))::k)) cs w)= .next (lone (b.atR (a.put o.dst v) (.inRegion ops (List.range' 1 (ops.size-1))::k)) cs' w):=by
  refine step_lone_go ?_;rw[hgo,←KR];simp only[Frame.atR,hro] at htr ⊢;rcases hv with hv|⟨hv,rfl,rfl⟩
  ·simp[stepG.apply,hr,htr,hv]
  ·simp[stepG.apply,hr,htr,hv]
 obtain ⟨e,a',w',hq,iK⟩:=wp_opsIn (F:=fro none) _ _ _ h b k cs' hro hF (hlen ▸ m5);refine ⟨e,a',cs',w',hlen,hq,.of_steps (.head (fenced_calm (fr:=b.atR a (.code (.region id ops false)::k)) hF m5 rfl) stepR_region ?_) iK⟩;rw[KM];exact .one h0 tA
end
section
variable {E:Env} {g:Gh} {f:Hf} {w:World}
theorem OY {l:List Dm} (h:Zh l=true):l= []:=by cases l<;>first|rfl|cases h
theorem QQ {e:Ex} {x:Exit} (h:pF e=true) (hx:ExR g e x):x= .normal∨x= .ret:=by
 cases hx with
 |normal=>exact .inl rfl
 |ret=>exact .inr rfl
 |exit id=>cases h
 |pan hv=>cases h
theorem JP {u:Option SV} {c0:Frame} {cs:List Frame} (hu:ug g u c0.mode):∃v cs' u',(recoverD (c0::cs)=some (v,cs')∨(recoverD (c0::cs)=none∧v= .nilIface∧cs'=c0::cs))∧VR g v (P7 u)∧cs'={c0 with mode:=u'}::cs∧settle u'= .returning:=by
 cases u with
 |none=>
  have hu:c0.mode= .returning:=hu;refine ⟨.nilIface,c0::cs,.returning,.inr ⟨by simp[recoverD,hu],rfl,rfl⟩,.cq,?_,rfl⟩
  rw[←hu]
 |some v=>
  obtain ⟨x,h1,h2⟩:=hu;refine ⟨x,{c0 with mode:=.panicking [{v:=x,recovered:=true}]}::cs,.panicking [{v:=x,recovered:=true}],.inl ?_,h2,rfl,?_⟩
  ·simp[recoverD,h1]
  ·simp[settle]
theorem RI (hS:jk E) {rec:Job→Out} (cu:∀j,Sound E j (rec j)) {k:FuncId} {as:List SV} {u:Option SV} {h:Hs} {kk:Hs→Out} {l:List Rs} (bf:RJ E rec (E.fn.get k) as u h kk= .bM l) (hb:Bd h):
  ∃hs:List Hs,hs≠ []∧(∀h'∈hs,Fac h h'∧∃r',kk h'= .bM r'∧∀x∈r',x∈l)∧(∀x∈l,∃h'∈hs,∃r',kk h'= .bM r'∧x∈r')∧
   ∀(m:Nat) (g:Gh) (w:World) (um:FrameMode) (us:List Value) (R:Ending→FrameMode→World→Prop),bu E g→HR g h.hp.get w→(∀x,h.nx≤x→g.ρ x=none)→ug g u um→VRs g us as→
    (∀h'∈hs,∀(g':Gh) (w':World) (v:Value) (u':FrameMode),settle u'= .returning→HR g' h'.hp.get w'→Fr g h.hp.get w g' h'.hp.get w'→(∀x,h'.nx≤x→g'.ρ x=none)→(∀x,x<h.nx→g'.ρ x=g.ρ x)→R (.returned v) u' w')→
    (∃args,(callFunc k us.toArray).run E.P w= .ok (.enter k args) w∧CallsDIn Fence.wide m E.P k args um w R):=by
 unfold RJ at bf;cases hfn:E.fn.get k with
 |none=>rw[hfn] at bf;cases bf
 |some fn=>
  rw[hfn] at bf;have bf:RL E rec fn as u h kk fn.body= .bM l:=bf;unfold RL at bf;split at bf;rotate_left
  ·cases bf
  rename_i id ops rest fD;rw[aB] at bf;split at bf;rotate_left
  ·cases bf
  rename_i hlen;have hlen:=(bk _ _).1 hlen;rw[aB] at bf;split at bf
  ·cases bf
  rename_i zr;unfold adX at bf;cases rD:ops.toList with
  |nil=>rw[rD] at bf;cases bf
  |cons o ol=>
   rw[rD] at bf;have bf:sel (nm o && cf fn.ntmps o.dst) (RH E rec fn rest (rec (.ops fn.ntmps (o::ol) ol (bc (setArgs as 0 .nil) o.dst (P7 u)) [] h)) kk) (.fail "no recover")= .bM l:=bf;rw[aB] at bf;split at bf;rotate_left
   ·cases bf
   rename_i jg;rw[Bool.and_eq_true] at jg;obtain ⟨hrc,Z1⟩:=jg;unfold RH at bf;obtain ⟨l1,h1,h2⟩:=mX bf;obtain ⟨n1,q1,q2⟩:=lI h2;have hs1:=cu (.ops fn.ntmps (o::ol) ol (bc (setArgs as 0 .nil) o.dst (P7 u)) [] h);rw[h1] at hs1;have hsz:ops.size=ol.length+1:=by rw[←Array.length_toList,rD];simp
   obtain ⟨no1,fo1,so1⟩:=hs1 ops rD (by rw[hsz,rD];simp) hb
   have hokb:codeOk (.seq (.region id ops false) rest)=true:=by
    have hok:=(hS.fn k fn hfn).2;have hok: @Option.rec Code (fun _=>Bool) true codeOk fn.body=true:=hok
    rw[fD] at hok;exact hok
   have way:∀o1∈l1,o1.e= .normal∧o1.dm= []∧∃l2,rec (.code fn.ntmps rest o1.tm [] o1.h)= .aR l2∧da E fn.ntmps rest o1.tm [] o1.h l2∧
     (∀o2∈l2,pF o2.e=true∧o2.dm= []∧(∃vs,fV E o2.tm.get o2.h.hp.get fn.results.toList=some vs)∧∃r',kk o2.h= .bM r'∧∀x∈r',x∈l):=by
    intro o1 ho1;obtain ⟨r1,e1,e2⟩:=q1 o1 ho1;rw[aB] at e1;split at e1;rotate_left
    ·cases e1
    rename_i hc1;rw[Bool.and_eq_true] at hc1;obtain ⟨l2,e3,e4⟩:=mX e1;obtain ⟨n2,p1,p2⟩:=lI e4;have hs2:=cu (.code fn.ntmps rest o1.tm [] o1.h);rw[e3] at hs2;refine ⟨yE hc1.1,OY hc1.2,l2,e3,hs2 (fo1 o1 ho1).1.bd,fun o2 ho2=> ?_⟩
    obtain ⟨r2,e5,e6⟩:=p1 o2 ho2;rw[aB] at e5;split at e5;rotate_left
    ·cases e5
    rename_i hc2;rw[Bool.and_eq_true] at hc2;cases hv:fV E o2.tm.get o2.h.hp.get fn.results.toList with
    |none=>rw[hv] at e5;cases e5
    |some vs=>
     rw[hv] at e5;have e5:kk o2.h= .bM r2:=e5;exact ⟨hc2.1,OY hc2.2,⟨vs,rfl⟩,r2,e5,fun x hx=>e2 x (e6 x hx)⟩
   have back:∀x∈l,∃o1∈l1,∃l2,rec (.code fn.ntmps rest o1.tm [] o1.h)= .aR l2∧∃o2∈l2,∃r',kk o2.h= .bM r'∧x∈r':=by
    intro x hx;obtain ⟨o1,ho1,r1,e1,e2⟩:=q2 x hx;rw[aB] at e1;split at e1;rotate_left
    ·cases e1
    obtain ⟨l2,e3,e4⟩:=mX e1;obtain ⟨n2,p1,p2⟩:=lI e4;obtain ⟨o2,ho2,r2,e5,e6⟩:=p2 x e2;rw[aB] at e5;split at e5;rotate_left
    ·cases e5
    cases hv:fV E o2.tm.get o2.h.hp.get fn.results.toList with
    |none=>rw[hv] at e5;cases e5
    |some vs=>
     rw[hv] at e5;exact ⟨o1,ho1,l2,e3,o2,ho2,r2,e5,e6⟩
   let hs:List Hs:=l1.flatMap fun o1=>match rec (.code fn.ntmps rest o1.tm [] o1.h) with| .aR l2=>l2.map (·.h)|_=> []
   have jI:∀h',h'∈hs↔∃o1∈l1,∃l2,rec (.code fn.ntmps rest o1.tm [] o1.h)= .aR l2∧∃o2∈l2,o2.h=h':=by
    intro h';simp only[hs,List.mem_flatMap];constructor
    ·rintro ⟨o1,ho1,hx⟩;obtain ⟨_,_,l2,e3,_⟩:=way o1 ho1;rw[e3] at hx;obtain ⟨o2,ho2,rfl⟩:=List.mem_map.1 hx;exact ⟨o1,ho1,l2,e3,o2,ho2,rfl⟩
    ·rintro ⟨o1,ho1,l2,e3,o2,ho2,rfl⟩;refine ⟨o1,ho1,?_⟩;rw[e3];exact List.mem_map.2 ⟨o2,ho2,rfl⟩
   refine ⟨hs,?_,fun h' hh'=> ?_,fun x hx=> ?_,fun m g w um us R hE hr hnx hu hus hR=> ?_⟩
   ·obtain ⟨o1,ho1⟩:=List.exists_mem_of_ne_nil _ no1;obtain ⟨_,_,l2,e3,k2,_⟩:=way o1 ho1;obtain ⟨o2,ho2⟩:=List.exists_mem_of_ne_nil _ k2.1;exact List.ne_nil_of_mem ((jI o2.h).2 ⟨o1,ho1,l2,e3,o2,ho2,rfl⟩)
   ·obtain ⟨o1,ho1,l2,e3,o2,ho2,rfl⟩:=(jI h').1 hh';obtain ⟨_,_,l2',e3',k2,w2⟩:=way o1 ho1;rw[e3] at e3';cases e3';obtain ⟨_,_,_,r',z1,z2⟩:=w2 o2 ho2;exact ⟨(fo1 o1 ho1).1.trans (k2.2.1 o2 ho2).1,r',z1,z2⟩
   ·obtain ⟨o1,ho1,l2,e3,o2,ho2,r',z1,z2⟩:=back x hx;exact ⟨o2.h,(jI _).2 ⟨o1,ho1,l2,e3,o2,ho2,rfl⟩,r',z1,z2⟩
   obtain ⟨hPf,_⟩:=hS.fn k fn hfn;refine ⟨us.toArray,?_,?_⟩
   ·rcases fU hPf (by rw[fD];rfl) us.toArray w with ⟨_,hc⟩|hc
    ·exact absurd (by rw[hc];decide) zr
    ·exact hc
   refine callsDIn_of_wpSIn hPf fD trivial (fun c0 cs hc0=>wpSIn_seq ?_)
   subst hc0;obtain ⟨v,cs',u',hv,hvr,hcs',iI⟩:=JP (cs:=cs) hu;have ho0:ops[0]? =some o:=by
    have:ops.toList[0]? =some o:=by rw[rD];rfl
    simpa using this
   refine sP ho0 hrc hv ?_;have adL:=hus.length;have KM:List.range' (ops.size-ol.length) ol.length=List.range' 1 (ops.size-1):=by
    have e1:ops.size-ol.length=1:=by omega
    have e2:ops.size-1=ol.length:=by omega
    rw[e1,e2]
   rw[←KM];refine so1 none m g (Act.put {tmps:=us.toArray++Array.replicate (fn.ntmps-us.toArray.size) undef,defers:= []} o.dst v) w _ (.inl rfl) hE (by rw[iU];exact (FR.args hus hlen).put Z1 hvr) hr (by rw[put_defers];exact .nil) hnx (fun o1 ho1 g1 a1 w1 x p0 p1 p2 p3 p4 p5 p6=> ?_)
   obtain ⟨he1,hd1,l2,e3,k2,w2⟩:=way o1 ho1;rw[he1] at p0;cases p0;rw[hd1] at p4;refine wpSIn_of_wpIn (F:=Fence.wide) rfl (ku (F:=fro none) ?_);refine k2.2.2 none m g1 a1 w1 _ (okR hokb) (.inl rfl) (hE.mono p3.le) p1 p2 p4 p5 (fun o2 ho2 g2 a2 w2' x s0 s1 s2 s3 s4 s5 s6=> ?_)
   obtain ⟨z0,z1,⟨vs,z2⟩,_⟩:=w2 o2 ho2;rw[z1] at s4;obtain ⟨rv,y1,y2⟩:=vh ((hE.mono p3.le).mono s3.le) s2 s1 z2;have hd:a2.defers= []:=by
    generalize a2.defers=d at s4;cases s4;rfl
   have fin:a2.defers= []∧∃u'',cs'={c0 with mode:=u''}::cs∧∃v,(results fn a2.tmps).run E.P w2'= .ok v w2'∧R (.returned v) u'' w2':=
    ⟨hd,u',hcs',rv,y1,hR o2.h ((jI _).2 ⟨o1,ho1,l2,e3,o2,ho2,rfl⟩) g2 w2' rv u' iI s2 (p3.trans s3) s5 (fun y hy=>by rw[s6 y (Nat.lt_of_lt_of_le hy (fo1 o1 ho1).1.nx),p6 y hy])⟩
   rcases QQ z0 s0 with rfl|rfl
   ·exact fin
   ·exact fin
theorem iF (hS:jk E) {rec:Job→Out} (cu:∀j,Sound E j (rec j)) {fn:Func} {tm:Tr SV}:∀(mk:List Dm) (u:Option SV) (h:Hs) (l:List Rs),iG E rec fn tm mk u h= .bM l→Bd h→l≠ []∧(∀r∈l,Fac h r.h)∧
  ∀(m nt:Nat) (g:Gh) (w:World) (a:Act) (ds:List Deferred) (um:FrameMode) (R:Ending→World→Prop),bu E g→FR g nt tm.get a.tmps→HR g h.hp.get w→Marks g mk ds→ug g u um→(∀x,h.nx≤x→g.ρ x=none)→
   (∀r∈l,∀e w',BR g h.hp.get w h.nx r e w'→R e w')→LeavesInM Fence.wide m E.P fn a.tmps R ds um w
 | [],u,h,l,bf,hb=>by
  have bf:aam E fn tm u h= .bM l:=bf;unfold aam at bf;cases u with
  |some v=>
   cases (show Out.bM [⟨true,v,h⟩]= .bM l from bf);refine ⟨by simp,fun r hr=> ?_,fun m nt g w a ds um R hE hfr hr hmk hu hnx hk=> ?_⟩
   ·obtain rfl:=List.mem_singleton.1 hr;exact Fac.refl hb
   ·cases hmk;obtain ⟨x,rfl,hx⟩:=hu;exact hk _ (List.mem_singleton.2 rfl) _ _ ⟨x,g,rfl,hx,hr,Fr.refl _ _ _,fun _ _=>rfl,hnx⟩
  |none=>
   have bf: @Option.rec (List SV) (fun _=>Out) (.fail fn.name) (fun vs=>.res (oneOf vs) h) (fV E tm.get h.hp.get fn.results.toList)= .bM l:=bf
   cases hv:fV E tm.get h.hp.get fn.results.toList with
   |none=>rw[hv] at bf;cases bf
   |some vs=>
    rw[hv] at bf;cases (show Out.bM [⟨false,oneOf vs,h⟩]= .bM l from bf);refine ⟨by simp,fun r hr=> ?_,fun m nt g w a ds um R hE hfr hr hmk hu hnx hk=> ?_⟩
    ·obtain rfl:=List.mem_singleton.1 hr;exact Fac.refl hb
    ·cases hmk;have hu:um= .returning:=hu;subst hu;obtain ⟨v,hv1,hv2⟩:=vh hE hr hfr hv;exact ⟨v,hv1,hk _ (List.mem_singleton.2 rfl) _ _ ⟨v,g,rfl,hv2,hr,Fr.refl _ _ _,fun _ _=>rfl,hnx⟩⟩
 | .mark d::mk,u,h,l,bf,hb=>by
  unfold iG at bf;split at bf;rotate_left
  ·cases bf
  rename_i hd;have hg:∀x,(⟨h.hp.set d none,h.nx,d::h.lg⟩:Hs).hp.get x=if x=d then none else h.hp.get x:=fun x=>Tr.bU _ _ _ _
  have hb1:Bd ⟨h.hp.set d none,h.nx,d::h.lg⟩:=fun x hx=>by
   rw[hg];split
   ·rfl
   ·exact hb x hx
  have f1:Fac h ⟨h.hp.set d none,h.nx,d::h.lg⟩:=by
   refine ⟨Nat.le_refl _,hb1,fun x hx hn=> ?_,fun x hx=>List.mem_cons_of_mem _ hx,fun x hx hn=> ?_⟩
   ·have hn:x∉d::h.lg:=hn;rw[hg,if_neg (fun e=>hn (by simp[e]))]
   ·rw[hg];split
    ·rfl
    ·exact hn
  obtain ⟨n1,q1,q2⟩:=iF hS cu mk u _ l bf hb1;refine ⟨n1,fun r hr=>f1.trans (q1 r hr),fun m nt g w a ds um R hE hfr hr hmk hu hnx hk=> ?_⟩
  cases hmk with
  | @mark _ _ r o ds' hρ ht=>
  obtain ⟨hlt,hor⟩:=hr.at hd hρ;have hor:w.heap[r]? =some (.deferred (some [])):=hor;refine ⟨hu.W4,.inl ⟨r,_,rfl,run_takeDeferred hor,?_⟩⟩;obtain ⟨s1,s2⟩:=HR.drop hr (w':=w.putObj r (.deferred none)) hd hρ (by simp) (fun k hk=>World.putObj_heap_other hk) rfl rfl rfl
  have e:(h.hp.set d none).get=upF h.hp.get (d,none):=funext fun x=>Tr.bU _ _ _ _
  rw[←e] at s1 s2;refine q2 m nt g _ a _ um R hE hfr s1 ht hu hnx (fun r' hr' e' w' ⟨uu,g',p1,p2,p3,p4,p5,p6⟩=>hk r' hr' e' w' ⟨uu,g',p1,p2,p3,s2.trans p4,p5,p6⟩)
 | .fn k as ca::mk,u,h,l,bf,hb=>by
  have bf:RJ E rec (E.fn.get k) (as++ca) u h (fun h'=>iG E rec fn tm mk none h')= .bM l:=bf
  obtain ⟨hs,n1,q1,q2,q3⟩:=RI hS cu bf hb;have sub:∀h'∈hs,∃r',iG E rec fn tm mk none h'= .bM r'∧(∀x∈r',x∈l)∧Fac h h':=fun h' hh'=>by
   obtain ⟨f1,r',e1,e2⟩:=q1 h' hh';exact ⟨r',e1,e2,f1⟩
  refine ⟨?_,fun r hr=> ?_,fun m nt g w a ds um R hE hfr hr hmk hu hnx hk=> ?_⟩
  ·obtain ⟨h',hh'⟩:=List.exists_mem_of_ne_nil _ n1;obtain ⟨r',e1,e2,f1⟩:=sub h' hh';obtain ⟨n2,_⟩:=iF hS cu mk none h' r' e1 f1.bd;obtain ⟨x,hx⟩:=List.exists_mem_of_ne_nil _ n2;exact List.ne_nil_of_mem (e2 x hx)
  ·obtain ⟨h',hh',r',e1,e2⟩:=q2 r hr;obtain ⟨f1,_⟩:=q1 h' hh';obtain ⟨_,f2,_⟩:=iF hS cu mk none h' r' e1 f1.bd;exact f1.trans (f2 r e2)
  cases hmk with
  | @fn _ _ _ _ ds' us cs h1 h2 ht=>
  have nO:VRs g (us.toList++cs.toList) (as++ca):=h1.append h2;obtain ⟨args,ea,tF⟩:=q3 (m-1) g w um (us.toList++cs.toList) (fun e u' w'=>match e with
    | .returned _=>LeavesInM Fence.wide m E.P fn a.tmps R ds' (settle u') w'
    | .panicked chain=>LeavesInM Fence.wide m E.P fn a.tmps R ds' (raised u' chain) w'
    | .outgrown=>R .outgrown w') hE hr hnx hu nO (fun h' hh' g' w' v u' iI p1 p2 p3 p4=>by
   obtain ⟨r',e1,e2,f1⟩:=sub h' hh';obtain ⟨_,_,s3⟩:=iF hS cu mk none h' r' e1 f1.bd;show LeavesInM Fence.wide m E.P fn a.tmps R ds' (settle u') w';rw[iI];exact s3 m nt g' w' a ds' .returning R (hE.mono p2.le) (hfr.mono p2.le) p1 (ht.mono p2.le) rfl p3 (fun x hx e' w2 ⟨uu,g2,t1,t2,t3,t4,t5,t6⟩=>hk x (e2 x hx) e' w2 ⟨uu,g2,t1,t2,t3,p2.trans t4,fun y hy=>by rw[t5 y (Nat.lt_of_lt_of_le hy f1.nx),p4 y hy],t6⟩))
  refine ⟨hu.W4,.inr ⟨fun hh=>by simp[Fence.wide] at hh,.func k,cs,k,args,rfl,?_,fun _ _=>trivial,?_⟩⟩
  ·have e:us++cs=(us.toList++cs.toList).toArray:=by apply Array.ext';simp
   show (callFunc k (us++cs)).run E.P w=_;rw[e];exact ea
  ·refine tF.mono (fun e u' w' he=> ?_)
   cases e<;>exact he
end
section
variable {E:Env} {g:Gh} {f:Hf} {w:World}
theorem SI.ss:∀{a b:SI},a.eqb b=true→a=b
 | .lit a,.lit b,h=>by
  have h:rB a b=true:=h;rw[lE] at h;rw[of_decide_eq_true h]
 | .var a,.var b,h=>by rw[(beq_iff _ _).1 (show Nat.beq a b=true from h)]
 | .add k a b,.add k' a' b',h=>by
  have h:(cc k k'&&(a.eqb a'&&b.eqb b'))=true:=h;rw[Bool.and_eq_true,Bool.and_eq_true] at h;rw[de h.1,SI.ss h.2.1,SI.ss h.2.2]
 | .sub k a b,.sub k' a' b',h=>by
  have h:(cc k k'&&(a.eqb a'&&b.eqb b'))=true:=h;rw[Bool.and_eq_true,Bool.and_eq_true] at h;rw[de h.1,SI.ss h.2.1,SI.ss h.2.2]
 | .conv k a,.conv k' a',h=>by
  have h:(cc k k'&&a.eqb a')=true:=h;rw[Bool.and_eq_true] at h;rw[de h.1,SI.ss h.2]
 | .lit _,.var _,h=>by cases h
 | .lit _,.add _ _ _,h=>by cases h
 | .lit _,.sub _ _ _,h=>by cases h
 | .lit _,.conv _ _,h=>by cases h
 | .var _,.lit _,h=>by cases h
 | .var _,.add _ _ _,h=>by cases h
 | .var _,.sub _ _ _,h=>by cases h
 | .var _,.conv _ _,h=>by cases h
 | .add _ _ _,.lit _,h=>by cases h
 | .add _ _ _,.var _,h=>by cases h
 | .add _ _ _,.sub _ _ _,h=>by cases h
 | .add _ _ _,.conv _ _,h=>by cases h
 | .sub _ _ _,.lit _,h=>by cases h
 | .sub _ _ _,.var _,h=>by cases h
 | .sub _ _ _,.add _ _ _,h=>by cases h
 | .sub _ _ _,.conv _ _,h=>by cases h
 | .conv _ _,.lit _,h=>by cases h
 | .conv _ _,.var _,h=>by cases h
 | .conv _ _,.add _ _ _,h=>by cases h
 | .conv _ _,.sub _ _ _,h=>by cases h
theorem agG {a b:Cp} (h:cpB a b=true):a=b:=by
 cases a<;>cases b<;>first|(cases h;done)|(rw[(beq_iff _ _).1 (show Nat.beq _ _=true from h)])
mutual
theorem uU:∀(a b:SV),svB a b=true→a=b
 | .bool a,b,h=>by
  cases b with
  |bool b=>cases a<;>cases b<;>first|rfl|(simp[svB,sel] at h)
  |_=>simp[svB] at h
 | .int k a,b,h=>by
  cases b with
  |int k' b=>
   simp only[svB,Bool.and_eq_true] at h;rw[de h.1,SI.ss h.2]
  |_=>simp[svB] at h
 | .str a,b,h=>by
  cases b with
  |str b=>
   simp only[svB] at h;rw[jX] at h;rw[of_decide_eq_true h]
  |_=>simp[svB] at h
 | .ptr a c,b,h=>by
  cases b with
  |ptr a' c'=>
   simp only[svB,Bool.and_eq_true] at h;rw[(beq_iff _ _).1 h.1,(beq_iff _ _).1 h.2]
  |_=>simp[svB] at h
 | .cF,b,h=>by cases b<;>first|rfl|(simp[svB] at h)
 | .sl a c d e,b,h=>by
  cases b with
  |sl a' c' d' e'=>
   simp only[svB,Bool.and_eq_true] at h;rw[(beq_iff _ _).1 h.1,(beq_iff _ _).1 h.2.1,(beq_iff _ _).1 h.2.2.1,agG h.2.2.2]
  |_=>simp[svB] at h
 | .sle,b,h=>by cases b<;>first|rfl|(simp[svB] at h)
 | .aY,b,h=>by cases b<;>first|rfl|(simp[svB] at h)
 | .mp a,b,h=>by
  cases b with
  |mp b=>simp only[svB] at h;rw[(beq_iff _ _).1 h]
  |_=>simp[svB] at h
 | .cG,b,h=>by cases b<;>first|rfl|(simp[svB] at h)
 | .fn fn a c,b,h=>by
  cases b with
  |fn fn' a' c'=>
   cases fn with
   |func k=>
    cases fn' with
    |func k'=>
     simp only[svB,Bool.and_eq_true] at h;rw[(beq_iff _ _).1 h.1,mj a a' h.2.1,mj c c' h.2.2]
    |_=>simp[svB] at h
   |_=>simp[svB] at h
  |_=>simp[svB] at h
 | .yld a,b,h=>by simp[svB] at h
 | .cP,b,h=>by cases b<;>first|rfl|(simp[svB] at h)
 | .ifc t v,b,h=>by
  cases b with
  |ifc t' v'=>
   simp only[svB,Bool.and_eq_true] at h;rw[(beq_iff _ _).1 h.1,uU v v' h.2]
  |_=>simp[svB] at h
 | .cq,b,h=>by cases b<;>first|rfl|(simp[svB] at h)
 | .agg l,b,h=>by
  cases b with
  |agg l'=>simp only[svB] at h;rw[mj l l' h]
  |_=>simp[svB] at h
 | .tup l,b,h=>by
  cases b with
  |tup l'=>simp only[svB] at h;rw[mj l l' h]
  |_=>simp[svB] at h
 | .undef,b,h=>by simp[svB] at h
theorem mj:∀(a b:List SV),nG a b=true→a=b
 | [],[],_=>rfl
 | [],_::_,h=>by simp[nG] at h
 |_::_,[],h=>by simp[nG] at h
 |x::l,y::m,h=>by
  simp only[nG,Bool.and_eq_true] at h;rw[uU x y h.1,mj l m h.2]
end
theorem Lo:∀{a b:List (SV×SV×Nat)},xh a b=true→a=b
 | [],[],_=>rfl
 | [],_::_,h=>by simp[xh] at h
 |_::_,[],h=>by simp[xh] at h
 |(x1,x2,x3)::l,(y1,y2,y3)::m,h=>by
  simp only[xh,Bool.and_eq_true] at h;rw[uU _ _ h.1,uU _ _ h.2.1,(beq_iff _ _).1 h.2.2.1,Lo h.2.2.2]
theorem UX {a b:Option SO} (h:soB a b=true):a=b:=by
 unfold soB at h;split at h
 ·rw[Bool.and_eq_true] at h;rw[(beq_iff _ _).1 h.1,mj _ _ h.2]
 ·rw[Bool.and_eq_true] at h;rw[(beq_iff _ _).1 h.1,Lo h.2]
 ·cases h
theorem tj {o:Hp}:∀(l:List Nat) (hp:Hp) (x:Nat) (z:SO),(meet o l hp).get x=some z→hp.get x=some z∧(x∈l→o.get x=some z)
 | [],hp,x,z,h=>⟨h,fun hx=>by simp at hx⟩
 |y::l,hp,x,z,h=>by
  unfold meet at h;rw[aB] at h;split at h
  ·rename_i hs;obtain ⟨h1,h2⟩:=tj l hp x z h;refine ⟨h1,fun hx=> ?_⟩
   rcases List.mem_cons.1 hx with rfl|hx
   ·rw[←UX hs];exact h1
   ·exact h2 hx
  ·obtain ⟨h1,h2⟩:=tj l _ x z h;rw[Tr.bU] at h1;split at h1
   ·cases h1
   ·rename_i hne;refine ⟨h1,fun hx=> ?_⟩
    rcases List.mem_cons.1 hx with rfl|hx
    ·exact absurd rfl hne
    ·exact h2 hx
theorem qD {o:Hp}:∀(l:List Nat) (hp:Hp) (x:Nat),x∉l→(meet o l hp).get x=hp.get x
 | [],_,_,_=>rfl
 |y::l,hp,x,hx=>by
  have h1:x≠y:=fun e=>hx (by simp[e])
  have h2:x∉l:=fun e=>hx (by simp[e])
  unfold meet;rw[aB];split
  ·exact qD l hp x h2
  ·rw[qD l _ x h2,Tr.bU,if_neg h1]
theorem zf:∀{n a x:Nat},x∈CC a n↔a≤x∧x<a+n
 |0,a,x=>by simp[CC]
 |n+1,a,x=>by
  simp only[CC,List.mem_cons];rw[zf];omega
theorem aeX (a b:Nat):a≤tk a b∧b≤tk a b:=by
 unfold tk;rw[aB];split
 ·rename_i h;exact ⟨(bk _ _).1 h,Nat.le_refl _⟩
 ·rename_i h;have:¬a≤b:=fun hh=>h ((bk _ _).2 hh)
  omega
structure nS (a j:Rs):Prop where
 pan:j.pan=a.pan
 v:j.v=a.v
 sub:∀x z,j.h.hp.get x=some z→a.h.hp.get x=some z
 nx:a.h.nx≤j.h.nx
theorem nS.refl (a:Rs):nS a a:=⟨rfl,rfl,fun _ _ h=>h,Nat.le_refl _⟩
theorem nS.trans {a b c:Rs} (h:nS a b) (k:nS b c):nS a c:=⟨k.pan.trans h.pan,k.v.trans h.v,fun x z hz=>h.sub x z (k.sub x z hz),Nat.le_trans h.nx k.nx⟩
theorem nS.post {a j:Rs} (h:nS a j) {H:Hf} {nx:Nat} {e:Ending} {w':World} (hp:BR g H w nx a e w'):BR g H w nx j e w':=by
 obtain ⟨u,g',h1,h2,h3,h4,h5,h6⟩:=hp;refine ⟨u,g',by rw[h.pan];exact h1,by rw[h.v];exact h2,h3.sub h.sub,⟨h4.os,h4.tape,h4.output,h4.size,h4.le,h4.old,fun b hb ⟨id,o,c,q1,q2⟩=>h4.own b hb ⟨id,o,c,h.sub id o q1,q2⟩⟩,h5,fun x hx=>h6 x (Nat.le_trans h.nx hx)⟩
theorem QA {h:Hs} {a b:Rs} (ha:Fac h a.h) (hb:Fac h b.h) (hpa:a.pan=false) (hpb:b.pan=false) (hv:a.v=b.v):nS a (qL h.nx a b)∧nS b (qL h.nx a b)∧Fac h (qL h.nx a b).h:=by
 obtain ⟨m1,m2⟩:=aeX a.h.nx b.h.nx;have get:∀x z,(qL h.nx a b).h.hp.get x=some z→a.h.hp.get x=some z∧b.h.hp.get x=some z:=by
  intro x z hz;obtain ⟨h1,h2⟩:=tj _ _ x z hz;obtain ⟨h3,h4⟩:=tj _ _ x z h1;refine ⟨h3,?_⟩;by_cases hx:x∈a.h.lg++b.h.lg
  ·exact h4 hx
  ·have hx1:x∉a.h.lg:=fun hc=>hx (by simp[hc])
   have hx2:x∉b.h.lg:=fun hc=>hx (by simp[hc])
   by_cases hl:x<h.nx
   ·rw[hb.lg x hl hx2,←ha.lg x hl hx1];exact h3
   ·by_cases hm:x<tk a.h.nx b.h.nx
    ·exact h2 (zf.2 (by
      show h.nx≤x∧x<h.nx+(tk a.h.nx b.h.nx-h.nx);have:=ha.nx;omega))
    ·rw[ha.bd x (by omega)] at h3;cases h3
 refine ⟨⟨hpa.symm,rfl,fun x z hz=>(get x z hz).1,m1⟩,⟨hpb.symm,hv,fun x z hz=>(get x z hz).2,m2⟩,⟨Nat.le_trans ha.nx m1,fun x hx=> ?_,fun x hx hl=> ?_,fun x hx=> ?_,fun x hx hn=> ?_⟩⟩
 ·have hx:tk a.h.nx b.h.nx≤x:=hx;cases hz:(qL h.nx a b).h.hp.get x with
  |none=>rfl
  |some z=>
   have:=(get x z hz).1;rw[ha.bd x (by omega)] at this;cases this
 ·have hl:x∉a.h.lg++b.h.lg:=hl;show (meet b.h.hp (CC h.nx (Nat.sub (tk a.h.nx b.h.nx) h.nx)) (meet b.h.hp (a.h.lg++b.h.lg) a.h.hp)).get x=_;rw[qD _ _ _ (fun hc=>by have:=(zf.1 hc).1;omega),qD _ _ _ hl]
  exact ha.lg x hx (fun hc=>hl (by simp[hc]))
 ·show x∈a.h.lg++b.h.lg;exact List.mem_append_left _ (ha.sub x hx)
 ·cases hz:(qL h.nx a b).h.hp.get x with
  |none=>rfl
  |some z=>
   have:=(get x z hz).1;rw[ha.dead x hx hn] at this;cases this
theorem AU {h:Hs}:∀{l:List Rs} {a:Rs} {r:List Rs},w8 h.nx a l= .bM r→Fac h a.h→(∀b∈l,Fac h b.h)→∃j,r= [j]∧Fac h j.h∧∀b∈a::l,nS b j
 | [],a,r,hr,ha,_=>by
  cases (show Out.bM [a]= .bM r from hr);exact ⟨a,rfl,ha,fun b hb=>by obtain rfl:=List.mem_singleton.1 hb;exact nS.refl _⟩
 |b::l,a,r,hr,ha,hl=>by
  have hr:sel (a.pan||(b.pan|| !svB a.v b.v)) (.fail "join") (w8 h.nx (qL h.nx a b) l)= .bM r:=hr;rw[aB] at hr;split at hr
  ·cases hr
  rename_i hc;have hc:(a.pan||(b.pan|| !svB a.v b.v))=false:=by simpa using hc
  rw[Bool.or_eq_false_iff,Bool.or_eq_false_iff] at hc;obtain ⟨c1,c2,c3⟩:=hc;have hv:=uU a.v b.v (by simpa using c3)
  obtain ⟨w1,w2,f1⟩:=QA ha (hl b (by simp)) c1 c2 hv
  obtain ⟨j,rfl,f2,hw⟩:=AU hr f1 (fun x hx=>hl x (by simp[hx]))
  refine ⟨j,rfl,f2,fun x hx=> ?_⟩
  rcases List.mem_cons.1 hx with rfl|hx
  ·exact w1.trans (hw _ (by simp))
  rcases List.mem_cons.1 hx with rfl|hx
  ·exact w2.trans (hw _ (by simp))
  ·exact hw x (by simp[hx])
theorem NI {b:Bool} {fv:SV} {as:List SV} {h:Hs} {r:Out} (hs:Sound E (.call fv as h) r):Sound E (.call fv as h) (w7 b h.nx r):=by
 unfold w7;cases b with
 |false=>exact hs
 |true=>
  show Sound E (.call fv as h) (@Out.rec (fun _=>Out) (fun _=>.fail "join") (fun _ _=>.fail "join") (fun l=>Qz h.nx l) (fun s=>.fail s) (fun a b c=>.g8 a b c) r)
  cases r with
  |bM l=>
   show Sound E (.call fv as h) (Qz h.nx l);cases l with
   |nil=>trivial
   |cons a l=>
    show Sound E (.call fv as h) (w8 h.nx a l);cases hj:w8 h.nx a l with
    |bM r=>
     intro hb;obtain ⟨n1,f1,s1⟩:=hs hb;obtain ⟨j,rfl,f2,hw⟩:=AU hj (f1 a (by simp)) (fun b hb=>f1 b (by simp[hb]))
     refine ⟨by simp,fun x hx=> ?_,fun m g w u us hE hr hnx hu hus=>(s1 m g w u us hE hr hnx hu hus).mono fun e w' ⟨x,hx,hp⟩=>⟨j,by simp,(hw x hx).post hp⟩⟩
     obtain rfl:=List.mem_singleton.1 hx;exact f2
    |_=>trivial
  |_=>trivial
theorem Bw {nx:Nat} {lg:List Nat} {r:Out} {l:List Rs} (h:By nx lg r= .bM l):∃l',r= .bM l'∧(l'≠ [])∧(∀x∈l',(⟨x.pan,x.v,⟨x.h.hp,x.h.nx,below nx x.h.lg lg⟩⟩:Rs)∈l)∧∀y∈l,∃x∈l',y=⟨x.pan,x.v,⟨x.h.hp,x.h.nx,below nx x.h.lg lg⟩⟩:=by
 obtain ⟨l',h1,h2⟩:=U6 h;obtain ⟨n1,q1,q2⟩:=lI h2;have one:∀(x:Rs) r',sel x.pan (Out.pan x.v ⟨x.h.hp,x.h.nx,below nx x.h.lg lg⟩) (.res x.v ⟨x.h.hp,x.h.nx,below nx x.h.lg lg⟩)= .bM r'→r'= [⟨x.pan,x.v,⟨x.h.hp,x.h.nx,below nx x.h.lg lg⟩⟩]:=by
  intro x r' hx;cases hp:x.pan with
  |false=>rw[hp] at hx;cases hx;rfl
  |true=>rw[hp] at hx;cases hx;rfl
 refine ⟨l',h1,n1,fun x hx=> ?_,fun y hy=> ?_⟩
 ·obtain ⟨r',e1,e2⟩:=q1 x hx;rw[one x r' e1] at e2;exact e2 _ (by simp)
 ·obtain ⟨x,hx,r',e1,e2⟩:=q2 y hy;rw[one x r' e1] at e2;exact ⟨x,hx,List.mem_singleton.1 e2⟩
theorem XD (hS:jk E) {rec:Job→Out} (cu:∀j,Sound E j (rec j)) {k:FuncId} {fn:Func} {c:Code} {fi as ca:List SV} {h:Hs} (hfn:E.fn.get k=some fn) (fD:fn.body=some c) (zr:fn.name≠ "runtime.NumGoroutine") (hlen:(fi++as++ca).length≤fn.ntmps):
  Sound E (.call (.fn (.func k) fi ca) as h) (vg E rec fn h.nx h.lg (rec (.code fn.ntmps c (setArgs (fi++as++ca) 0 .nil) [] ⟨h.hp,h.nx,[]⟩))):=by
 cases bf:vg E rec fn h.nx h.lg (rec (.code fn.ntmps c (setArgs (fi++as++ca) 0 .nil) [] ⟨h.hp,h.nx,[]⟩)) with
 |bM l=>
  intro hb;unfold vg at bf;obtain ⟨l1,h1,h2⟩:=mX bf;obtain ⟨_,q1,q2⟩:=lI h2;have hs:=cu (.code fn.ntmps c (setArgs (fi++as++ca) 0 .nil) [] ⟨h.hp,h.nx,[]⟩);rw[h1] at hs;obtain ⟨n1,f1,s1⟩:=hs hb;have way:∀o∈l1,∃u l2,FU o.e=some u∧iG E rec fn o.tm o.dm u o.h= .bM l2∧l2≠ []∧∀x∈l2,(⟨x.pan,x.v,⟨x.h.hp,x.h.nx,below h.nx x.h.lg h.lg⟩⟩:Rs)∈l:=by
   intro o ho;obtain ⟨r',e1,e2⟩:=q1 o ho;cases hu:FU o.e with
   |none=>rw[hu] at e1;cases e1
   |some u=>
    rw[hu] at e1;obtain ⟨l2,e3,e4,e5,_⟩:=Bw (show By h.nx h.lg (iG E rec fn o.tm o.dm u o.h)= .bM r' from e1);exact ⟨u,l2,rfl,e3,e4,fun x hx=>e2 _ (e5 x hx)⟩
  have back:∀y∈l,∃o∈l1,∃u l2,iG E rec fn o.tm o.dm u o.h= .bM l2∧∃x∈l2,y=⟨x.pan,x.v,⟨x.h.hp,x.h.nx,below h.nx x.h.lg h.lg⟩⟩:=by
   intro y hy;obtain ⟨o,ho,r',e1,e2⟩:=q2 y hy;cases hu:FU o.e with
   |none=>rw[hu] at e1;cases e1
   |some u=>
    rw[hu] at e1;obtain ⟨l2,e3,e4,_,e5⟩:=Bw (show By h.nx h.lg (iG E rec fn o.tm o.dm u o.h)= .bM r' from e1);obtain ⟨x,hx,e6⟩:=e5 y e2;exact ⟨o,ho,u,l2,e3,x,hx,e6⟩
  refine ⟨?_,fun y hy=> ?_,fun m g w u us hE hr hnx hu hus=> ?_⟩
  ·obtain ⟨o,ho⟩:=List.exists_mem_of_ne_nil _ n1;obtain ⟨u,l2,_,_,e4,e5⟩:=way o ho;obtain ⟨x,hx⟩:=List.exists_mem_of_ne_nil _ e4;exact List.ne_nil_of_mem (e5 x hx)
  ·obtain ⟨o,ho,u,l2,e3,x,hx,rfl⟩:=back y hy;obtain ⟨_,f2,_⟩:=iF hS cu _ _ _ _ e3 (f1 o ho).1.bd;have f3:=(f1 o ho).1.trans (f2 x hx);refine ⟨f3.nx,f3.bd,fun z hz hn=>f3.lg z hz (fun hc=>hn (gG.2 (.inl ⟨hc,hz⟩))),fun z hz=>gG.2 (.inr hz),f3.dead⟩
  cases hu with
  | @fn _ first cC _ _ hv1 hv2=>
  obtain ⟨hPf,hok⟩:=hS.fn k fn hfn;have il:VRs g (first.toList++us++cC.toList) (fi++as++ca):=(hv1.append hus).append hv2
  have iK:first++us.toArray++cC=(first.toList++us++cC.toList).toArray:=by apply Array.ext';simp
  have hokc:codeOk c=true:=by
   have hok: @Option.rec Code (fun _=>Bool) true codeOk fn.body=true:=hok
   rw[fD] at hok;exact hok
  refine ⟨{target:=.fn (.func k) cC,args:=first++us.toArray},rfl,.inl ⟨k,first++us.toArray++cC,?_,?_⟩⟩
  ·show (callFunc k (first++us.toArray++cC)).run E.P w=_
   rcases fU hPf (by rw[fD];rfl) (first++us.toArray++cC) w with ⟨_,hc⟩|hc
   ·exact absurd hc zr
   ·exact hc
  rw[iK];refine callsIn_of_wp_marks (F:=Fence.wide) hPf fD trivial (ku (F:=fro none) ?_);refine s1 none m g {tmps:=_,defers:= []} w _ hokc (.inl rfl) hE (FR.args il hlen) hr .nil hnx (fun o ho g1 a1 w1 x p0 p1 p2 p3 p4 p5 p6=> ?_)
  obtain ⟨uu,l2,rG,hlv,_,hin⟩:=way o ho;obtain ⟨_,f2,s2⟩:=iF hS cu _ _ _ _ hlv (f1 o ho).1.bd;have fin:∀um,ug g1 uu um→LeavesInM Fence.wide m E.P fn a1.tmps (fun e w'=>∃r∈l,BR g h.hp.get w h.nx r e w') a1.defers um w1:=by
   intro um hum;refine s2 m _ g1 w1 a1 a1.defers um _ (hE.mono p3.le) p1 p2 p4 hum p5 (fun r hr e w' ⟨z,g',t1,t2,t3,t4,t5,t6⟩=> ?_)
   exact ⟨_,hin r hr,z,g',t1,t2,t3,p3.trans t4,fun y hy=>by rw[t5 y (Nat.lt_of_lt_of_le hy (f1 o ho).1.nx),p6 y hy],t6⟩
  generalize hoe:o.e=e at p0 rG;cases p0 with
  |normal=>cases rG;exact fin .returning rfl
  |ret=>cases rG;exact fin .returning rfl
  |exit id=>cases rG
  | @pan v z hv=>cases rG;exact fin _ ⟨z,rfl,hv⟩
 |_=>trivial
theorem tZ {fv:SV} {as:List SV} {h:Hs} {v:SV} {h':Hs} (h1:Bd h→Fac h h'∧ju E false fv as h.hp.get h.nx v h'.hp.get h'.nx):Sound E (.call fv as h) (.res v h'):=LD (r:=⟨false,v,h'⟩) h1
theorem zV {g:Gh} {h:Hs} {w w':World} (hr:HR g h.hp.get w) (hs:BP w w'):HR g h.hp.get w'∧Fr g h.hp.get w g h.hp.get w':=
 ⟨hr.grow hs.size hs.heap,⟨hs.os,hs.tape,hs.output,hs.size,.refl _,fun b hb _=>hs.heap b hb,fun b hb hm=>hm⟩⟩
theorem zu {P:Program} {k:FuncId} (h:Si P k) (args:Array Value) (w:World):(callFunc k args).run P w= .ok (.enter k args) w:=by
 obtain ⟨fn,h1,h2,h3⟩:=h;rcases fU h1 h2 args w with ⟨_,hc⟩|hc
 ·exact absurd hc h3
 ·exact hc
theorem Ld {k:FuncId} {l:List SV} {v:SV} (h:jM E k l=some v):l= []:=by
 cases l with
 |nil=>rfl
 |cons a l=>cases h
theorem RG (hS:jk E) {k:FuncId} {fi as ca:List SV} {h:Hs} {v:SV} (hd:jM E k (fi++as++ca)=some v):Sound E (.call (.fn (.func k) fi ca) as h) (.res v h):=by
 refine tZ (fun hb=> ?_)
 have mJ:=Ld hd;obtain ⟨hfa,rfl⟩:=List.append_eq_nil_iff.1 mJ;obtain ⟨rfl,rfl⟩:=List.append_eq_nil_iff.1 hfa;obtain ⟨hgo,h4⟩:=hS.done k v hd;refine ⟨Fac.refl hb,fun m g w u us hE hr hnx hu hus=> ?_⟩
 cases hu with
 | @fn _ first cC _ _ hv1 hv2=>
 have ef:first= #[]:=by
  generalize hz:first.toList=z at hv1
  cases hv1;simpa using hz
 have ec:cC= #[]:=by
  generalize hz:cC.toList=z at hv2;cases hv2;simpa using hz
 cases hus;subst ef;subst ec;refine ⟨{target:=.fn (.func k) #[],args:= #[]},rfl,.inl ⟨k,#[],zu hgo #[] w,?_⟩⟩;refine CallsIn.mono (h4 m w) ?_;rintro e w' ⟨r,rfl,hv,hs⟩;obtain ⟨s1,s2⟩:=zV hr hs;exact ⟨r,rfl,g,hv g,s1,s2,fun _ _=>rfl,hnx⟩
theorem NJ {k:Nat} {l:List SV} (h:gn E k l=true):∃t x y,l= [.ifc t x,y]∧zU k t E.jv=true∧aaX x=true∧isFn y=true:=by
 unfold gn at h;split at h
 ·rename_i t x y;rw[Bool.and_eq_true,Bool.and_eq_true] at h;exact ⟨t,x,y,rfl,h.1,h.2.1,h.2.2⟩
 ·cases h
theorem PH (hS:jk E) {k:FuncId} {fi as ca:List SV} {h:Hs} (ht:gn E k (fi++as++ca)=true):Sound E (.call (.fn (.func k) fi ca) as h) (.res (.tup []) h):=by
 refine tZ (fun hb=>⟨Fac.refl hb,fun m g w u us hE hr hnx hu hus=> ?_⟩)
 obtain ⟨t,x,y,hl,h1,h2,h3⟩:=NJ ht;obtain ⟨hgo,h4⟩:=hS.jv k t h1;cases hu with
 | @fn _ first cC _ _ hv1 hv2=>
 have il:VRs g (first.toList++us++cC.toList) [.ifc t x,y]:=by rw[←hl];exact (hv1.append hus).append hv2
 have iK:first++us.toArray++cC=(first.toList++us++cC.toList).toArray:=by apply Array.ext';simp
 obtain ⟨v1,v2,e,r1,r2⟩:=oO il;rw[e] at iK;have hy:∃lf la lb,v2= .func lf la lb:=by
  cases y with
  |fn f a c=>cases r2;exact ⟨_,_,_,rfl⟩
  |_=>cases h3
 obtain ⟨lf,la,lb,rfl⟩:=hy;have hx:∃p n c,v1= .iface t (.slice p n c)∧n≤1:=by
  cases r1 with
  |ifc hr1=>
   cases x with
   |sl id off n cap=>cases hr1;exact ⟨_,_,_,rfl,(bk _ _).1 h2⟩
   |aY=>cases hr1;exact ⟨_,_,_,rfl,Nat.zero_le _⟩
   |sle=>cases hr1;exact ⟨_,_,_,rfl,Nat.zero_le _⟩
   |_=>cases h2
 obtain ⟨p,n,c,rfl,hn⟩:=hx;refine ⟨{target:=.fn (.func k) cC,args:=first++us.toArray},rfl,.inl ⟨k,#[.iface t (.slice p n c),.func lf la lb],?_,?_⟩⟩
 ·show (callFunc k (first++us.toArray++cC)).run E.P w=_
  rw[iK];exact zu hgo _ w
 refine CallsIn.mono (h4 m w p n c lf la lb hn) ?_;rintro e w' ⟨rfl,hs⟩;obtain ⟨s1,s2⟩:=zV hr hs;exact ⟨.tuple #[],rfl,g,.tup .nil,s1,s2,fun _ _=>rfl,hnx⟩
theorem gM {x:Nat}:∀{l:List (Nat×SO)} {t:Hp},x∉l.map (·.1)→(bX l t).get x=t.get x
 | [],_,_=>rfl
 |p::l,t,h=>by
  have h:x∉p.1::l.map (·.1):=h
  rw[List.mem_cons,not_or] at h;show ((bX l t).set p.1 (some p.2)).get x=_;rw[Tr.bU,if_neg h.1,gM h.2]
theorem O0 {x:Nat} {s:Hp}:∀{l:List (Nat×SO)} {t:Hp},x∈l.map (·.1)→(bX l t).get x=(bX l s).get x
 | [],_,h=>by cases h
 |p::l,t,h=>by
  show ((bX l t).set p.1 (some p.2)).get x=((bX l s).set p.1 (some p.2)).get x;rw[Tr.bU,Tr.bU];split
  ·rfl
  ·rename_i hx;refine O0 ?_;rcases List.mem_cons.1 (show x∈p.1::l.map (·.1) from h) with e|h
   ·exact absurd e hx
   ·exact h
theorem kB {x:Nat}:∀{l:List (Nat×SO)} {t:Hp},x∈l.map (·.1)→∃o,(bX l t).get x=some o∧(x,o)∈l
 | [],_,h=>by cases h
 |p::l,t,h=>by
  by_cases hx:x=p.1
  ·subst hx;exact ⟨p.2,by show ((bX l t).set p.1 (some p.2)).get p.1=_;rw[Tr.bU,if_pos rfl],by simp⟩
  ·rcases List.mem_cons.1 (show x∈p.1::l.map (·.1) from h) with e|h
   ·exact absurd e hx
   ·obtain ⟨o,h1,h2⟩:=kB (t:=t) h;refine ⟨o,?_,List.mem_cons_of_mem _ h2⟩;show ((bX l t).set p.1 (some p.2)).get x=_;rw[Tr.bU,if_neg hx,h1]
theorem DD {h:Hp}:∀{l:List (Nat×SO)},inB h l=true→∀x o,(x,o)∈l→h.get x=some o
 | [],_,x,o,hm=>by cases hm
 |p::l,hb,x,o,hm=>by
  have hb:(soB (h.get p.1) (some p.2)&&inB h l)=true:=hb;rw[Bool.and_eq_true] at hb;rcases List.mem_cons.1 hm with e|hm
  ·cases e;exact UX hb.1
  ·exact DD hb.2 x o hm
theorem Ty {k:Nat} {as:List SV} {h:Hs} {m m':Mo} (hm:HQ k as h m=some m'):∃τ,τ=tau (aaz h.hp m.inp (qU m.as as)) m.nx h.nx∧m.k=k∧m'=m.ren τ h.nx∧Zg m τ h.nx=true∧nG as m'.as=true∧inB h.hp m'.inp=true:=by
 obtain ⟨hk,hm⟩:=aq hm;obtain ⟨hc,hm⟩:=aq (show adQ m _ as h _=some m' from hm);cases hm;rw[Bool.and_eq_true,Bool.and_eq_true] at hc;exact ⟨_,rfl,(beq_iff _ _).1 hk,rfl,hc.1,hc.2.1,hc.2.2⟩
theorem yJ {k:Nat} {as:List SV} {h:Hs} {m':Mo}:∀{l:List Mo},jL k as h l=some m'→∃m∈l,HQ k as h m=some m'
 | [],h=>by cases h
 |x::l,hf=>by
  have hf: @Option.rec Mo (fun _=>Option Mo) (jL k as h l) (fun m'=>some m') (HQ k as h x)=some m':=hf
  cases ht:HQ k as h x with
  |some y=>
   rw[ht] at hf;cases hf;exact ⟨x,by simp,ht⟩
  |none=>
   rw[ht] at hf;obtain ⟨m,h1,h2⟩:=yJ (l:=l) hf;exact ⟨m,List.mem_cons_of_mem _ h1,h2⟩
theorem Zq {m:Mo} {h:Hp} (hin:inB h m.inp=true) (x:Nat):(bX m.out h).get x=fK (fun x=>decide (x∈m.out.map (·.1))||decide (x∈m.inp.map (·.1))) (bX m.out (bX m.inp .nil)).get h.get x:=by
 unfold fK;by_cases ho:x∈m.out.map (·.1)
 ·rw[if_pos (by simp only[Bool.or_eq_true,decide_eq_true_eq];exact .inl ho)]
  exact O0 ho
 ·rw[gM ho];by_cases hi:x∈m.inp.map (·.1)
  ·rw[if_pos (by simp only[Bool.or_eq_true,decide_eq_true_eq];exact .inr hi),gM ho]
   obtain ⟨o,h1,h2⟩:=kB (t:=.nil) hi;rw[h1];exact DD hin x o h2
  ·rw[if_neg (by simp only[Bool.or_eq_true,decide_eq_true_eq,not_or];exact ⟨ho,hi⟩)]
def pull (τ:Nat→Nat) (D:Nat→Prop) [DecidablePred D] (g:Gh):Gh:={g with ρ:=fun id=>if D id then g.ρ (τ id) else none,lim:=fun id=>g.lim (τ id),et:=fun id=>g.et (τ id)}
section
variable {τ:Nat→Nat} {D:Nat→Prop} [DecidablePred D] {S:List Nat}
theorem wT {id:Nat} (h:D id):(pull τ D g).ρ id=g.ρ (τ id):=if_pos h
mutual
theorem VR.pull (hS:∀x,x∈S→D x):∀{x:SV} {v:Value},VR g v (mu τ x)→inS S x=true→VR (pull τ D g) v x
 | .bool b,_,h,_=>by cases (show VR g _ (.bool b) from h);exact .bool b
 | .int k e,_,h,_=>by cases (show VR g _ (.int k e) from h) with|int _ _ q=>exact .int k e q
 | .str s,_,h,_=>by cases (show VR g _ (.str s) from h);exact .str s
 | .ptr a o,_,h,hs=>by
  have hm:=hS _ ((dL _ _).1 (show cz a S=true from hs));cases (show VR g _ (.ptr (τ a) o) from h) with|ptr q=>exact .ptr ((wT hm).trans q)
 | .cF,_,h,_=>by cases (show VR g _ .cF from h);exact .cF
 | .sl a o n c,_,h,hs=>by
  have hm:=hS _ ((dL _ _).1 (show cz a S=true from hs));cases (show VR g _ (.sl (τ a) o n c) from h) with|sl q h1 h2 h3=>exact .sl ((wT hm).trans q) h1 h2 h3
 | .sle,_,h,_=>by cases (show VR g _ .sle from h);exact .sle
 | .aY,_,h,_=>by cases (show VR g _ .aY from h);exact .aY
 | .mp a,_,h,hs=>by
  have hm:=hS _ ((dL _ _).1 (show cz a S=true from hs));cases (show VR g _ (.mp (τ a)) from h) with|mp q=>exact .mp ((wT hm).trans q)
 | .cG,_,h,_=>by cases (show VR g _ .cG from h);exact .cG
 | .fn f a c,_,h,hs=>by
  have hz:=(Bool.and_eq_true_iff).1 (show (jw S a&&jw S c)=true from hs);cases (show VR g _ (.fn f (gx τ a) (gx τ c)) from h) with|fn h1 h2=>exact .fn (VRs.pull hS h1 hz.1) (VRs.pull hS h2 hz.2)
 | .yld a,_,h,hs=>by cases hs
 | .cP,_,h,_=>by cases (show VR g _ .cP from h);exact .cP
 | .ifc t v,_,h,hs=>by cases (show VR g _ (.ifc t (mu τ v)) from h) with|ifc q=>exact .ifc (VR.pull hS q hs)
 | .cq,_,h,_=>by cases (show VR g _ .cq from h);exact .cq
 | .agg l,_,h,hs=>by cases (show VR g _ (.agg (gx τ l)) from h) with|agg q=>exact .agg (VCs.pull hS q hs)
 | .tup l,_,h,hs=>by cases (show VR g _ (.tup (gx τ l)) from h) with|tup q=>exact .tup (VRs.pull hS q hs)
 | .undef,_,h,hs=>by cases hs
theorem VRs.pull (hS:∀x,x∈S→D x):∀{xs:List SV} {vs:List Value},VRs g vs (gx τ xs)→jw S xs=true→VRs (pull τ D g) vs xs
 | [],_,h,_=>by cases (show VRs g _ [] from h);exact .nil
 |x::l,_,h,hs=>by
  have hz:=(Bool.and_eq_true_iff).1 (show (inS S x&&jw S l)=true from hs);cases (show VRs g _ (mu τ x::gx τ l) from h) with|cons h1 h2=>exact .cons (VR.pull hS h1 hz.1) (VRs.pull hS h2 hz.2)
theorem VCs.pull (hS:∀x,x∈S→D x):∀{xs:List SV} {vs:List Value},VCs g vs (gx τ xs)→jw S xs=true→VCs (pull τ D g) vs xs
 | [],_,h,_=>by cases (show VCs g _ [] from h);exact .nil
 |x::l,_,h,hs=>by
  have hz:=(Bool.and_eq_true_iff).1 (show (inS S x&&jw S l)=true from hs);cases (show VCs g _ (mu τ x::gx τ l) from h) with|cons h1 h2 h3=>exact .cons h1 (VR.pull hS h2 hz.1) (VCs.pull hS h3 hz.2)
end
theorem cE.pull (hS:∀x,x∈S→D x):∀{xs:List (SV×SV×Nat)} {ms:List MapEntry},cE g ms (wQ τ xs)→zl S xs=true→cE (pull τ D g) ms xs
 | [],_,h,_=>by cases (show cE g _ [] from h);exact .nil
 |x::l,_,h,hs=>by
  have hz:=(Bool.and_eq_true_iff).1 (show ((inS S x.1&&inS S x.2.1)&&zl S l)=true from hs);have h0:=(Bool.and_eq_true_iff).1 hz.1;cases (show cE g _ ((mu τ x.1,mu τ x.2.1,x.2.2)::wQ τ l) from h) with|cons h1 h2=>exact .cons ⟨VR.pull hS h1.1 h0.1,VR.pull hS h1.2.1 h0.2,h1.2.2⟩ (cE.pull hS h2 hz.2)
theorem OR.pull (hS:∀x,x∈S→D x) {w:World} {id b o:Nat} {x:SO} (h:OR g w (τ id) b o (mv τ x)) (hx:inO S x=true):OR (pull τ D g) w id b o x:=by
 cases x with
 |cells e cs=>
  obtain ⟨⟨cur,h1,h0,vs,h2,h3⟩,h4⟩:=(show Cells g w (τ id) b o e (gx τ cs) from h);exact ⟨⟨cur,h1,h0,vs,VCs.pull hS h2 hx,h3⟩,h4⟩
 |map es c=>obtain ⟨ms,h1,h2⟩:=h;exact ⟨ms,h1,cE.pull hS h2 hx⟩
 |fQ s pos=>cases hx
 |mapIter mp since seen last=>cases hx
 |loop nt tm ps as bo st pe dd=>cases hx
 |dfr=>cases hx
 |ro cs=>cases hx
end
structure Ed (τ:Nat→Nat) (g g':Gh):Prop where
 η:g'.η=g.η
 sz:g'.sz=g.sz
 ρ:∀id p,g.ρ id=some p→g'.ρ (τ id)=some p
 lim:∀id p,g.ρ id=some p→g'.lim (τ id)=g.lim id
 et:∀id p,g.ρ id=some p→g'.et (τ id)=g.et id
section
variable {τ:Nat→Nat}
mutual
theorem VR.push {g g':Gh} (hp:Ed τ g g'):∀{v x},VR g v x→VR g' v (mu τ x)
 |_,_,.bool b=>.bool b
 |_,_,.int k e h=>.int k e (by rw[hp.η];exact h)
 |_,_,.str s=>.str s
 |_,_,.ptr h=>.ptr (hp.ρ _ _ h)
 |_,_,.cF=>.cF
 |_,_,.sl h hn hc hl=>.sl (hp.ρ _ _ h) hn hc (fun e he=>by rw[hp.sz,hp.et _ _ h,hp.lim _ _ h];exact hl e he)
 |_,_,.sle=>.sle
 |_,_,.aY=>.aY
 |_,_,.mp h=>.mp (hp.ρ _ _ h)
 |_,_,.cG=>.cG
 |_,_,.fn h1 h2=>.fn (h1.push hp) (h2.push hp)
 |_,_,.yld h=>.yld (hp.ρ _ _ h)
 |_,_,.cP=>.cP
 |_,_,.ifc h=>.ifc (h.push hp)
 |_,_,.cq=>.cq
 |_,_,.agg h=>.agg (h.push hp)
 |_,_,.tup h=>.tup (h.push hp)
 |_,_,.undef v=>.undef v
theorem VRs.push {g g':Gh} (hp:Ed τ g g'):∀{v x},VRs g v x→VRs g' v (gx τ x)
 |_,_,.nil=>.nil
 |_,_,.cons h ht=>.cons (h.push hp) (ht.push hp)
theorem VCs.push {g g':Gh} (hp:Ed τ g g'):∀{v x},VCs g v x→VCs g' v (gx τ x)
 |_,_,.nil=>.nil
 |_,_,.cons h1 h ht=>.cons h1 (h.push hp) (ht.push hp)
end
theorem cE.push {g g':Gh} (hp:Ed τ g g'):∀{ms:List MapEntry} {xs:List (SV×SV×Nat)},cE g ms xs→cE g' ms (wQ τ xs)
 |_,_,.nil=>.nil
 |_,_,.cons h ht=>.cons ⟨h.1.push hp,h.2.1.push hp,h.2.2⟩ (ht.push hp)
theorem OR.push {g g':Gh} (hp:Ed τ g g') {w:World} {id b o:Nat} {x:SO} (hρ:g.ρ id=some (b,o)) (h:OR g w id b o x) (hx:r9 x=true):OR g' w (τ id) b o (mv τ x):=by
 cases x with
 |cells e cs=>
  obtain ⟨⟨cur,h1,h0,vs,h2,h3⟩,h4⟩:=h;exact ⟨⟨cur,h1,by rw[hp.lim _ _ hρ];exact h0,vs,h2.push hp,h3⟩,(hp.et _ _ hρ).trans h4⟩
 |map es c=>obtain ⟨ms,h1,h2⟩:=h;exact ⟨ms,h1,h2.push hp⟩
 |fQ s pos=>cases hx
 |mapIter mp since seen last=>cases hx
 |loop nt tm ps as bo st pe dd=>cases hx
 |dfr=>cases hx
 |ro cs=>cases hx
theorem YS (a b:List (Nat×SO)):gI τ (a++b)=gI τ a++gI τ b:=by
 induction a with
 |nil=>rfl
 |cons p l ih=>show (τ p.1,mv τ p.2)::gI τ (l++b)=_;rw[ih];rfl
theorem zc (a b:List (Nat×SO)) (t:Hp):bX (a++b) t=bX a (bX b t):=by
 induction a with
 |nil=>rfl
 |cons p l ih=>show (bX (l++b) t).set p.1 (some p.2)=_;rw[ih];rfl
theorem zg {l:List (Nat×SO)} {q:Nat×SO} (h:q∈gI τ l):∃p∈l,q=(τ p.1,mv τ p.2):=by
 induction l with
 |nil=>cases h
 |cons p l ih=>
  rcases List.mem_cons.1 (show q∈(τ p.1,mv τ p.2)::gI τ l from h) with e|h
  ·exact ⟨p,by simp,e⟩
  ·obtain ⟨p',h1,h2⟩:=ih h;exact ⟨p',List.mem_cons_of_mem _ h1,h2⟩
theorem yW {l:List (Nat×SO)} {p:Nat×SO} (h:p∈l):(τ p.1,mv τ p.2)∈gI τ l:=by
 induction l with
 |nil=>cases h
 |cons q l ih=>
  rcases List.mem_cons.1 h with rfl|h
  ·exact List.mem_cons_self
  ·exact List.mem_cons_of_mem _ (ih h)
theorem Ou {D:Nat→Prop} (inj:∀i j,D i→D j→τ i=τ j→i=j):∀{l:List (Nat×SO)},(∀p∈l,D p.1)→∀y o',(bX (gI τ l) .nil).get y=some o'→∃id o,D id∧id∈l.map (·.1)∧y=τ id∧(bX l .nil).get id=some o∧o'=mv τ o
 | [],_,y,o',h=>by cases h
 |p::l,hD,y,o',h=>by
  have h:((bX (gI τ l) .nil).set (τ p.1) (some (mv τ p.2))).get y=some o':=h;have e:∀x,(bX (p::l) .nil).get x=if x=p.1 then some p.2 else (bX l .nil).get x:=fun x=>by
   show ((bX l .nil).set p.1 (some p.2)).get x=_;rw[Tr.bU]
  rw[Tr.bU] at h;split at h
  ·rename_i hy;cases h;exact ⟨p.1,p.2,hD p (by simp),by simp,hy,by rw[e,if_pos rfl],rfl⟩
  ·rename_i hy;obtain ⟨id,o,h1,h2,h3,h4,h5⟩:=Ou inj (fun q hq=>hD q (List.mem_cons_of_mem _ hq)) y o' h
   refine ⟨id,o,h1,by simp at h2 ⊢;exact .inr h2,h3,?_,h5⟩
   rw[e,if_neg (fun hc=>hy (by rw[h3,hc]))]
   exact h4
theorem so {D:Nat→Prop} (inj:∀i j,D i→D j→τ i=τ j→i=j):∀{l:List (Nat×SO)},(∀p∈l,D p.1)→∀id o,D id→(bX l .nil).get id=some o→(bX (gI τ l) .nil).get (τ id)=some (mv τ o)
 | [],_,id,o,_,h=>by cases h
 |p::l,hD,id,o,hid,h=>by
  have h:((bX l .nil).set p.1 (some p.2)).get id=some o:=h;show ((bX (gI τ l) .nil).set (τ p.1) (some (mv τ p.2))).get (τ id)=_;rw[Tr.bU] at h ⊢;split at h
  ·rename_i hy;cases h;rw[if_pos (by rw[hy])]
  ·rename_i hy;rw[if_neg (fun hc=>hy (inj _ _ hid (hD p (by simp)) hc))]
   exact so inj (fun q hq=>hD q (List.mem_cons_of_mem _ hq)) id o hid h
theorem rO {N:Nat}:∀{l:List (Nat×SO)},we τ N l=true→∀p∈l,τ p.1<N
 | [],_,p,hp=>by cases hp
 |x::l,h,p,hp=>by
  have h:=(Bool.and_eq_true_iff).1 (show (Nat.ble (Nat.succ (τ x.1)) N&&we τ N l)=true from h);rcases List.mem_cons.1 hp with rfl|hp
  ·exact (bk _ _).1 h.1
  ·exact rO h.2 p hp
theorem Br:∀{l:List (Nat×SO)},Bt τ l=true→∀i j,i∈l.map (·.1)→j∈l.map (·.1)→τ i=τ j→i=j
 | [],_,i,j,hi,_,_=>by cases hi
 |x::l,h,i,j,hi,hj,e=>by
  have h:=(Bool.and_eq_true_iff).1 (show (!cz (τ x.1) (l.map fun q=>τ q.1)&&Bt τ l)=true from h)
  have hn:∀k,k∈l.map (·.1)→τ x.1≠τ k:=fun k hk hc=>by
   have hm:τ x.1∈l.map fun q=>τ q.1:=by
    obtain ⟨q,hq,rfl⟩:=List.mem_map.1 hk;rw[hc];exact List.mem_map.2 ⟨q,hq,rfl⟩
   rw[(dL _ _).2 hm] at h;cases h.1
  rcases List.mem_cons.1 (show i∈x.1::l.map (·.1) from hi) with ei|hi
  ·rcases List.mem_cons.1 (show j∈x.1::l.map (·.1) from hj) with ej|hj
   ·rw[ei,ej]
   ·rw[ei] at e;exact absurd e (hn j hj)
  ·rcases List.mem_cons.1 (show j∈x.1::l.map (·.1) from hj) with ej|hj
   ·rw[ej] at e;exact absurd e.symm (hn i hi)
   ·exact Br h.2 i j hi hj e
end
theorem zj {S:List Nat}:∀{l:List (Nat×SO)},zk S l=true→∀x o,(x,o)∈l→inO S o=true
 | [],_,x,o,h=>by cases h
 |p::l,hb,x,o,h=>by
  have hb:=(Bool.and_eq_true_iff).1 (show (inO S p.2&&zk S l)=true from hb);rcases List.mem_cons.1 h with e|h
  ·cases e;exact hb.1
  ·exact zj hb.2 x o h
mutual
theorem xa {τ:Nat→Nat} {S S':List Nat} (hS:∀x,x∈S→τ x∈S'):∀(x:SV),inS S x=true→inS S' (mu τ x)=true
 | .bool _,_=>rfl
 | .int _ _,_=>rfl
 | .str _,_=>rfl
 | .ptr a _,h=>(dL _ _).2 (hS _ ((dL _ _).1 (show cz a S=true from h)))
 | .cF,_=>rfl
 | .sl a _ _ _,h=>(dL _ _).2 (hS _ ((dL _ _).1 (show cz a S=true from h)))
 | .sle,_=>rfl
 | .aY,_=>rfl
 | .mp a,h=>(dL _ _).2 (hS _ ((dL _ _).1 (show cz a S=true from h)))
 | .cG,_=>rfl
 | .fn _ a c,h=>by
  have h:=(Bool.and_eq_true_iff).1 (show (jw S a&&jw S c)=true from h);exact (Bool.and_eq_true_iff).2 ⟨lh hS a h.1,lh hS c h.2⟩
 | .yld _,h=>by cases h
 | .cP,_=>rfl
 | .ifc _ v,h=>xa hS v h
 | .cq,_=>rfl
 | .agg l,h=>lh hS l h
 | .tup l,h=>lh hS l h
 | .undef,h=>by cases h
theorem lh {τ:Nat→Nat} {S S':List Nat} (hS:∀x,x∈S→τ x∈S'):∀(l:List SV),jw S l=true→jw S' (gx τ l)=true
 | [],_=>rfl
 |x::l,h=>by
  have h:=(Bool.and_eq_true_iff).1 (show (inS S x&&jw S l)=true from h);exact (Bool.and_eq_true_iff).2 ⟨xa hS x h.1,lh hS l h.2⟩
end
theorem Kz {τ:Nat→Nat} {S S':List Nat} (hS:∀x,x∈S→τ x∈S'):∀(l:List (SV×SV×Nat)),zl S l=true→zl S' (wQ τ l)=true
 | [],_=>rfl
 |x::l,h=>by
  have h:=(Bool.and_eq_true_iff).1 (show ((inS S x.1&&inS S x.2.1)&&zl S l)=true from h);have h0:=(Bool.and_eq_true_iff).1 h.1;exact (Bool.and_eq_true_iff).2 ⟨(Bool.and_eq_true_iff).2 ⟨xa hS _ h0.1,xa hS _ h0.2⟩,Kz hS l h.2⟩
theorem Ky {τ:Nat→Nat} {S S':List Nat} (hS:∀x,x∈S→τ x∈S'):∀(l:List (Nat×SO)),zk S l=true→zk S' (gI τ l)=true
 | [],_=>rfl
 |p::l,h=>by
  have h:=(Bool.and_eq_true_iff).1 (show (inO S p.2&&zk S l)=true from h);refine (Bool.and_eq_true_iff).2 ⟨?_,Ky hS l h.2⟩;have h1:=h.1;cases hp:p.2 with
  |cells e cs=>rw[hp] at h1;exact lh hS cs h1
  |map es c=>rw[hp] at h1;exact Kz hS es h1
  |fQ s pos=>rw[hp] at h1;cases h1
  |mapIter mp since seen last=>rw[hp] at h1;cases h1
  |loop nt tm ps as bo st pe dd=>rw[hp] at h1;cases h1
  |dfr=>rw[hp] at h1;cases h1
  |ro cs=>rw[hp] at h1;cases h1
theorem Xv {S:List Nat} {o:SO} (h:inO S o=true):r9 o=true:=by cases o<;>first|rfl|(cases h)
theorem Vy {τ:Nat→Nat} {o:SO} (h:r9 o=true):r9 (mv τ o)=true:=by cases o<;>first|rfl|(cases h)
theorem afL {σ:List (Nat×Nat)} {nx N a:Nat} (h:nx≤a):tau σ nx N a=N+(a-nx):=by
 unfold tau;rw[aB,if_pos ((bk _ _).2 h)];rfl
theorem nU.ren {m:Mo} (h:nU E m) {σ:List (Nat×Nat)} {N:Nat} (hok:Zg m (tau σ m.nx N) N=true):nU E (m.ren (tau σ m.nx N) N):=by
 generalize hτ:tau σ m.nx N=τ at hok;obtain ⟨hgo,⟨f1,f2,f3,f4,f5,f6⟩,sem⟩:=h;obtain ⟨k1,k2⟩:=(Bool.and_eq_true_iff).1 (show (we τ N m.inp&&Bt τ m.inp)=true from hok);have thi:∀a,m.nx≤a→τ a=N+(a-m.nx):=fun a ha=>by rw[←hτ];exact afL ha
 have tlo:∀a,a∈m.inp.map (·.1)→τ a<N:=fun a ha=>by
  obtain ⟨p,hp,rfl⟩:=List.mem_map.1 ha;exact rO k1 p hp
 have slo:∀a,a∈m.inp.map (·.1)→a<m.nx:=fun a ha=>by
  obtain ⟨p,hp,rfl⟩:=List.mem_map.1 ha;exact f1 p hp
 let D:Nat→Prop:=fun a=>a∈m.inp.map (·.1)∨m.nx≤a
 have inj:∀i j,D i→D j→τ i=τ j→i=j:=fun i j hi hj e=>by
  rcases hi with hi|hi<;>rcases hj with hj|hj
  ·exact Br k2 i j hi hj e
  ·have:=tlo i hi;rw[thi j hj] at e;omega
  ·have:=tlo j hj;rw[thi i hi] at e;omega
  ·rw[thi i hi,thi j hj] at e;omega
 have MG:∀p∈m.inp,D p.1:=fun p hp=>.inl (List.mem_map.2 ⟨p,hp,rfl⟩)
 have Dout:∀p∈m.out,D p.1:=fun p hp=>(f2 p hp).2.symm
 have ee:∀(a b:List (Nat×SO)),bX (gI τ a) (bX (gI τ b) .nil)=bX (gI τ (a++b)) .nil:=fun a b=>by rw[YS,zc]
 refine ⟨hgo,⟨fun p hp=> ?_,fun p hp=> ?_,Nat.le_add_right _ _,?_,?_,fun p hp=> ?_⟩,fun j g w us hE hr hfr hus=> ?_⟩
 ·obtain ⟨q,hq,rfl⟩:=zg hp;exact rO k1 q hq
 ·obtain ⟨q,hq,rfl⟩:=zg hp;obtain ⟨z1,z2⟩:=f2 q hq;show τ q.1<N+(m.nx'-m.nx)∧(N≤τ q.1∨τ q.1∈(gI τ m.inp).map (·.1))
  rcases z2 with z2|z2
  ·rw[thi _ z2];exact ⟨by omega,.inl (by omega)⟩
  ·have:=tlo _ z2;obtain ⟨p,hp,e⟩:=List.mem_map.1 z2;exact ⟨by omega,.inr (List.mem_map.2 ⟨_,yW hp,by show τ p.1=τ q.1;rw[e]⟩)⟩
 ·refine lh (fun x hx=> ?_) _ f4
  obtain ⟨p,hp,rfl⟩:=List.mem_map.1 hx;exact List.mem_map.2 ⟨_,yW hp,rfl⟩
 ·refine Ky (fun x hx=> ?_) _ f5
  obtain ⟨p,hp,rfl⟩:=List.mem_map.1 hx;exact List.mem_map.2 ⟨_,yW hp,rfl⟩
 ·obtain ⟨q,hq,rfl⟩:=zg hp;exact Vy (f6 q hq)
 have hfr:∀x,N≤x→g.ρ x=none:=hfr;have hr:HR g (bX (gI τ m.inp) .nil).get w:=hr;have hDS:∀x,x∈m.inp.map (·.1)→D x:=fun x hx=>.inl hx
 letI:DecidablePred D:=fun a=>inferInstanceAs (Decidable (_∨_))
 generalize hg1:pull τ D g=g1;have r1:∀id,D id→g1.ρ id=g.ρ (τ id):=fun id hd=>by rw[←hg1];exact wT hd
 have r2:∀id,¬D id→g1.ρ id=none:=fun id hd=>by rw[←hg1];exact if_neg hd
 have QU:∀id o,(bX m.inp .nil).get id=some o→id∈m.inp.map (·.1)∧(id,o)∈m.inp:=fun id o ho=>by
  by_cases hi:id∈m.inp.map (·.1)
  ·obtain ⟨o',h1,h2⟩:=kB (t:=.nil) hi;rw[ho] at h1;cases h1;exact ⟨hi,h2⟩
  ·rw[gM hi] at ho;cases ho
 have hE1:bu E g1:=by rw[←hg1];exact ⟨hE.ty,hE.fn,hE.lt,hE.eq,hE.mix,hE.sz⟩
 have hr1:HR g1 (bX m.inp .nil).get w:=by
  refine ⟨fun id o ho=> ?_,fun i k x y b c d hx hy e1 e2=> ?_⟩
  ·obtain ⟨s1,s2⟩:=QU id o ho;obtain ⟨b,c,q1,q2,q3⟩:=hr.ob _ _ (so inj MG id o (hDS id s1) ho);refine ⟨b,c,(r1 id (hDS id s1)).trans q1,q2,?_⟩;rw[←hg1];exact OR.pull hDS q3 (zj f5 id o s2)
  ·obtain ⟨s1,_⟩:=QU i x hx;obtain ⟨t1,_⟩:=QU k y hy;rw[r1 i (hDS i s1)] at e1;rw[r1 k (hDS k t1)] at e2;exact inj i k (hDS i s1) (hDS k t1) (hr.inj _ _ _ _ _ _ _ (so inj MG i x (hDS i s1) hx) (so inj MG k y (hDS k t1) hy) e1 e2)
 refine CallsIn.mono (sem j g1 w us hE1 hr1 (fun x hx=> ?_) (by rw[←hg1];exact VRs.pull hDS hus f4)) ?_
 ·rw[r1 x (.inr hx),thi x hx];exact hfr _ (Nat.le_add_right _ _)
 rintro e w' ⟨r,g1',rfl,h1,h2,h3,h4,h5⟩;let g':Gh:={g with ρ:=fun y=>if y<N then g.ρ y else g1'.ρ (m.nx+(y-N)),lim:=fun y=>if y<N then g.lim y else g1'.lim (m.nx+(y-N)),et:=fun y=>if y<N then g.et y else g1'.et (m.nx+(y-N))}
 have gη:g1.η=g.η:=by rw[←hg1];rfl
 have gsz:g1.sz=g.sz:=by rw[←hg1];rfl
 have Jx:∀id p,g1'.ρ id=some p→D id:=fun id p hp=>by
  by_cases hx:m.nx≤id
  ·exact .inr hx
  ·rw[h4 id (by omega)] at hp
   by_cases hd:D id
   ·exact hd
   ·rw[r2 id hd] at hp;cases hp
 have push:Ed τ g1' g':=by
  refine ⟨by show g.η=g1'.η;rw[h3.le.η,gη],by show g.sz=g1'.sz;rw[h3.le.sz,gsz],fun id p hp=> ?_,fun id p hp=> ?_,fun id p hp=> ?_⟩
  ·show (if τ id<N then g.ρ (τ id) else g1'.ρ (m.nx+(τ id-N)))=some p
   rcases Jx id p hp with hd|hd
   ·rw[if_pos (tlo id hd),←r1 id (.inl hd),←h4 id (slo id hd)];exact hp
   ·rw[thi id hd,if_neg (by omega),show m.nx+(N+(id-m.nx)-N)=id by omega];exact hp
  ·show (if τ id<N then g.lim (τ id) else g1'.lim (m.nx+(τ id-N)))=_
   rcases Jx id p hp with hd|hd
   ·rw[if_pos (tlo id hd)];have hp':g1.ρ id=some p:=by rw[←h4 id (slo id hd)];exact hp
    rw[h3.le.lim id p hp',←hg1];rfl
   ·rw[thi id hd,if_neg (by omega),show m.nx+(N+(id-m.nx)-N)=id by omega]
  ·show (if τ id<N then g.et (τ id) else g1'.et (m.nx+(τ id-N)))=_
   rcases Jx id p hp with hd|hd
   ·rw[if_pos (tlo id hd)];have hp':g1.ρ id=some p:=by rw[←h4 id (slo id hd)];exact hp
    rw[h3.le.et id p hp',←hg1];rfl
   ·rw[thi id hd,if_neg (by omega),show m.nx+(N+(id-m.nx)-N)=id by omega]
 have Dall:∀p∈m.out++m.inp,D p.1:=fun p hp=>(List.mem_append.1 hp).elim (Dout p) (MG p)
 have YZ:∀id o,(bX m.out (bX m.inp .nil)).get id=some o→r9 o=true:=fun id o ho=>by
  rw[←zc] at ho;by_cases hi:id∈(m.out++m.inp).map (·.1)
  ·obtain ⟨o',q1,q2⟩:=kB (t:=.nil) hi;rw[ho] at q1;cases q1;rcases List.mem_append.1 q2 with q2|q2
   ·exact f6 _ q2
   ·exact Xv (zj f5 _ _ q2)
  ·rw[gM hi] at ho;cases ho
 have back:∀y o',(bX (gI τ m.out) (bX (gI τ m.inp) .nil)).get y=some o'→∃id o,D id∧y=τ id∧(bX m.out (bX m.inp .nil)).get id=some o∧o'=mv τ o:=fun y o' hy=>by
  rw[ee] at hy;obtain ⟨id,o,q1,_,q3,q4,q5⟩:=Ou inj Dall y o' hy;rw[zc] at q4;exact ⟨id,o,q1,q3,q4,q5⟩
 have ρ':∀id,D id→g'.ρ (τ id)=g1'.ρ id:=fun id hd=>by
  cases hp:g1'.ρ id with
  |some p=>exact push.ρ id p hp
  |none=>
   show (if τ id<N then g.ρ (τ id) else g1'.ρ (m.nx+(τ id-N)))=none
   rcases hd with hd|hd
   ·rw[if_pos (tlo id hd),←r1 id (.inl hd),←h4 id (slo id hd)];exact hp
   ·rw[thi id hd,if_neg (by omega),show m.nx+(N+(id-m.nx)-N)=id by omega];exact hp
 have acz:∀b,Ee g1 (bX m.inp .nil).get b→Ee g (bX (gI τ m.inp) .nil).get b:=fun b ⟨id,o,c,z1,z2⟩=>by
  obtain ⟨s1,_⟩:=QU id o z1;rw[r1 id (hDS id s1)] at z2;exact ⟨τ id,_,c,so inj MG id o (hDS id s1) z1,z2⟩
 refine ⟨r,g',rfl,h1.push push,⟨fun y o' hy=> ?_,fun i k x y b c d hx hy e1 e2=> ?_⟩,⟨h3.os,h3.tape,h3.output,h3.size,⟨rfl,rfl,fun y p hy=> ?_,fun y p hy=> ?_,fun y p hy=> ?_,rfl⟩,fun b hb hn=>h3.old b hb (fun hc=>hn (acz b hc)),fun b hb hm=> ?_⟩,fun y hy=>if_pos hy,fun y hy=> ?_⟩
 ·obtain ⟨id,o,q1,rfl,q3,rfl⟩:=back y o' hy;obtain ⟨b,c,z1,z2,z3⟩:=h2.ob id o q3;exact ⟨b,c,(ρ' id q1).trans z1,z2,z3.push push z1 (YZ id o q3)⟩
 ·obtain ⟨i',x',q1,rfl,q3,rfl⟩:=back i x hx;obtain ⟨k',y',p1,rfl,p3,rfl⟩:=back k y hy;rw[ρ' i' q1] at e1;rw[ρ' k' p1] at e2;rw[h2.inj i' k' x' y' b c d q3 p3 e1 e2]
 ·have hlt:y<N:=by
   by_cases hy':y<N
   ·exact hy'
   ·rw[hfr y (by omega)] at hy;cases hy
  exact (if_pos hlt).trans hy
 ·have hlt:y<N:=by
   by_cases hy':y<N
   ·exact hy'
   ·rw[hfr y (by omega)] at hy;cases hy
  exact if_pos hlt
 ·have hlt:y<N:=by
   by_cases hy':y<N
   ·exact hy'
   ·rw[hfr y (by omega)] at hy;cases hy
  exact if_pos hlt
 ·refine acz b (h3.own b hb ?_);obtain ⟨y,o',c,z1,z2⟩:=hm;obtain ⟨id,o,q1,rfl,q3,rfl⟩:=back y o' z1;rw[ρ' id q1] at z2;exact ⟨id,o,c,q3,z2⟩
 ·have hy:N+(m.nx'-m.nx)≤y:=hy;show (if y<N then g.ρ y else g1'.ρ (m.nx+(y-N)))=none
  rw[if_neg (by omega)]
  exact h5 _ (by omega)
theorem Qn (hS:jk E) {k:FuncId} {fi as ca:List SV} {h:Hs} {m:Mo} (hm:jL k (fi++as++ca) h E.fL=some m):Sound E (.call (.fn (.func k) fi ca) as h) (.res m.v (qJ m h)):=by
 obtain ⟨m0,jI,hb⟩:=yJ hm;obtain ⟨τ,hτ,hk,em,hok,has,hin⟩:=Ty hb;have hmo:nU E m:=by rw[em,hτ];exact (hS.fL m0 jI).ren (by rw[←hτ];exact hok)
 have hnx:h.nx=m.nx:=by rw[em];rfl
 obtain rfl:m.k=k:=by rw[em];exact hk
 have has:=mj _ _ has;obtain ⟨hgo,fit,sem⟩:=hmo;obtain ⟨f1,f2,f3,_⟩:=fit;unfold qJ;have oid:∀x,x∈m.out.map (·.1)→x<m.nx'∧(m.nx≤x∨x∈m.inp.map (·.1)):=fun x hx=>by
  obtain ⟨p,hp,rfl⟩:=List.mem_map.1 hx;exact f2 p hp
 have live:∀x,x∈m.inp.map (·.1)→∃o,h.hp.get x=some o∧(bX m.inp .nil).get x=some o:=fun x hx=>by
  obtain ⟨o,h1,h2⟩:=kB (t:=.nil) hx;exact ⟨o,DD hin x o h2,h1⟩
 refine tZ (fun hbd=>⟨⟨Nat.le_trans (Nat.le_of_eq hnx) f3,fun x hx=> ?_,fun x hx hn=> ?_,fun x hx=>List.mem_append_right _ hx,fun x hx hn=> ?_⟩,fun j g w u us hE hr hfr hu hus=> ?_⟩)
 ·show (bX m.out h.hp).get x=none;rw[gM (fun hc=>by have:=(oid x hc).1;have:m.nx'≤x:=hx;omega)]
  have:m.nx'≤x:=hx;exact hbd x (show h.nx≤x by omega)
 ·show (bX m.out h.hp).get x=_;exact gM (fun hc=>hn (List.mem_append_left _ hc))
 ·show (bX m.out h.hp).get x=none;rw[gM (fun hc=> ?_)]
  ·exact hn
  rcases (oid x hc).2 with h1|h1
  ·omega
  ·obtain ⟨o,h2,_⟩:=live x h1;rw[hn] at h2;cases h2
 cases hu with
 | @fn _ first cC _ _ hv1 hv2=>
 have il:VRs g (first.toList++us++cC.toList) m.as:=by rw[←has];exact (hv1.append hus).append hv2
 have iK:first++us.toArray++cC=(first.toList++us++cC.toList).toArray:=by apply Array.ext';simp
 refine ⟨{target:=.fn (.func m.k) cC,args:=first++us.toArray},rfl,.inl ⟨m.k,(first.toList++us++cC.toList).toArray,?_,?_⟩⟩
 ·show (callFunc m.k (first++us.toArray++cC)).run E.P w=_
  rw[iK];exact zu hgo _ w
 have nM:∀x o,(bX m.inp .nil).get x=some o→h.hp.get x=some o:=fun x o hx=>by
  by_cases hi:x∈m.inp.map (·.1)
  ·obtain ⟨o',h1,h2⟩:=live x hi;rw[hx] at h2;cases h2;exact h1
  ·rw[gM hi] at hx;cases hx
 refine CallsIn.mono (sem j g w _ hE (hr.sub nM) (fun x hx=>hfr x (by omega)) il) ?_
 rintro e w' ⟨r,g',rfl,h1,h2,h3,h4,h5⟩;have D0:∀x,(decide (x∈m.out.map (·.1))||decide (x∈m.inp.map (·.1)))=false→(bX m.out (bX m.inp .nil)).get x=none∧(bX m.inp .nil).get x=none:=fun x hx=>by
  rw[Bool.or_eq_false_iff,decide_eq_false_iff_not,decide_eq_false_iff_not] at hx;have e:(bX m.inp .nil).get x=none:=by rw[gM hx.2];rfl
  exact ⟨by rw[gM hx.1];exact e,e⟩
 obtain ⟨s1,s2⟩:=Bf (D:=fun x=>decide (x∈m.out.map (·.1))||decide (x∈m.inp.map (·.1))) hr nM (fun x hx=>hfr x (by omega)) h2 h3 h4 (fun x hx _=>by rw[(D0 x hx).1,(D0 x hx).2]) (fun x hx _=>(D0 x hx).1)
 have ee:(bX m.out h.hp).get=fK (fun x=>decide (x∈m.out.map (·.1))||decide (x∈m.inp.map (·.1))) (bX m.out (bX m.inp .nil)).get h.hp.get:=funext (Zq hin)
 exact ⟨r,rfl,g',h1,by rw[ee];exact s1,by rw[ee];exact s2,fun x hx=>h4 x (by omega),h5⟩
theorem EX (a b:ByteArray):Lib.compareBytes a.data.toList b.data.toList=p9 a b:=by
 have key:∀(l m:List UInt8),Lib.compareBytes l m=if oY l m=true then -1 else if jo l m=true then 0 else 1:=by
  intro l;induction l with
  |nil=>intro m;cases m<;>simp[Lib.compareBytes,oY,jo]
  |cons x l ih=>
   intro m;cases m with
   |nil=>simp[Lib.compareBytes,oY,jo]
   |cons y m=>
    unfold Lib.compareBytes oY jo;rw[ih m,aB,aB,ble_eq,beq_eq];have h1:(x<y)↔x.toNat+1≤y.toNat:=by rw[UInt8.lt_iff_toNat_lt];omega
    have h2:(y<x)↔y.toNat<x.toNat:=UInt8.lt_iff_toNat_lt;by_cases hxy:x<y
    ·simp[hxy,h1.1 hxy]
    ·by_cases hyx:y<x
     ·have a1:¬(x.toNat+1≤y.toNat):=fun h=>hxy (h1.2 h)
      have a2:¬(x.toNat=y.toNat):=fun h=>by have:=h2.1 hyx;omega
      simp[hxy,hyx,a1,a2]
     ·have a1:¬(x.toNat+1≤y.toNat):=fun h=>hxy (h1.2 h)
      have a3:¬(y.toNat<x.toNat):=fun h=>hyx (h2.2 h)
      have a2:x.toNat=y.toNat:=by omega
      have a4:¬(y.toNat+1≤y.toNat):=by omega
      simp[hxy,hyx,a2,a4]
 rw[key];unfold p9;rw[aB,aB]
theorem XG (hS:jk E) {k:FuncId} {fn:Func} {fi as ca:List SV} {h:Hs} (hfn:E.fn.get k=some fn) (fD:fn.body=none):Sound E (.call (.fn (.func k) fi ca) as h) (Le fn (fi++as++ca) h):=by
 generalize hl:fi++as++ca=l;unfold Le;split;rotate_left
 ·trivial
 rename_i x y;split;rotate_left
 ·trivial
 rename_i s1 hs1;split;rotate_left
 ·trivial
 rename_i s2 hs2;obtain rfl:=eR hs1;obtain rfl:=eR hs2;rw[aB];split;rotate_left
 ·trivial
 rename_i Bb;refine tZ (fun hb=>⟨Fac.refl hb,fun m g w u us hE hr hnx hu hus=> ?_⟩)
 cases hu with
 | @fn _ first cC _ _ hv1 hv2=>
 have il:VRs g (first.toList++us++cC.toList) [.str s1,.str s2]:=by rw[←hl];exact (hv1.append hus).append hv2
 have iK:first++us.toArray++cC=(first.toList++us++cC.toList).toArray:=by apply Array.ext';simp
 obtain ⟨v1,v2,e,h1,h2⟩:=oO il;rw[e] at iK;cases h1;cases h2;obtain ⟨e1,e2⟩:=hS.ext k fn hfn fD Bb;refine ⟨{target:=.fn (.func k) cC,args:=first++us.toArray},rfl,.inr (.inr ⟨.int .i64 (Lib.compareBytes s1.data.toList s2.data.toList),w,?_,_,rfl,g,.int _ _ ?_,hr,Fr.refl _ _ _,fun _ _=>rfl,hnx⟩)⟩
 ·show (callFunc k (first++us.toArray++cC)).run E.P w=_
  rw[iK,run_callFunc_extern (hS.fn k fn hfn).1 (by
   have:fn.name= "internal/bytealg.abigen_runtime_cmpstring" :=by simpa using Bb
   rw[this];decide) (by rw[fD];rfl) e1 e2,Lib.run_compareString]
  rfl
 ·rw[EX];rfl
theorem zY (hS:jk E) {rec:Job→Out} (cu:∀j,Sound E j (rec j)) (fv:SV) (as:List SV) (h:Hs):Sound E (.call fv as h) (aec fv E rec as h):=by
 cases fv with
 |yld l=>exact Ni cu l as h
 |fn f fi ca=>
  cases f with
  |func k=>
   show Sound E _ (@Option.rec SV (fun _=>Out) (@Option.rec Mo (fun _=>Out) (sel (cz k E.stop) (.g8 k (fi++as++ca) h) (sel (gn E k (fi++as++ca)) (.res (.tup []) h) (tI E rec k (E.fn.get k) (fi++as++ca) h))) (fun m=>.res m.v (qJ m h)) (jL k (fi++as++ca) h E.fL)) (fun v=>.res v h) (jM E k (fi++as++ca)))
   cases hd:jM E k (fi++as++ca) with
   |some v=>exact RG hS hd
   |none=>
    show Sound E _ (@Option.rec Mo (fun _=>Out) (sel (cz k E.stop) (.g8 k (fi++as++ca) h) (sel (gn E k (fi++as++ca)) (.res (.tup []) h) (tI E rec k (E.fn.get k) (fi++as++ca) h))) (fun m=>.res m.v (qJ m h)) (jL k (fi++as++ca) h E.fL))
    cases hm:jL k (fi++as++ca) h E.fL with
    |some m=>exact Qn hS hm
    |none=>
    show Sound E _ (sel (cz k E.stop) (.g8 k (fi++as++ca) h) (sel (gn E k (fi++as++ca)) (.res (.tup []) h) (tI E rec k (E.fn.get k) (fi++as++ca) h)));rw[aB];split
    ·trivial
    rw[aB];split
    ·rename_i ht;exact PH hS ht
    cases hfn:E.fn.get k with
    |none=>trivial
    |some fn=>
     show Sound E _ (BH E rec k fn (fi++as++ca) h);unfold BH;cases fD:fn.body with
     |none=>exact XG hS hfn fD
     |some c=>
      show Sound E _ (sel (Nat.ble (fi++as++ca).length fn.ntmps) (sel (nn fn.name) (.fail "NumGoroutine") (w7 (cz k E.join) h.nx (vg E rec fn h.nx h.lg (rec (.code fn.ntmps c (setArgs (fi++as++ca) 0 .nil) [] ⟨h.hp,h.nx,[]⟩))))) (.fail "args"));rw[aB,aB];split;rotate_left
      ·trivial
      rename_i hlen;split
      ·trivial
      rename_i zr;exact NI (XD hS cu hfn fD (fun hc=>zr (by rw[hc];decide)) ((bk _ _).1 hlen))
  |_=>trivial
 |_=>trivial
theorem u0 (hS:jk E):∀(n:Nat) (j:Job),Sound E j (run E n j)
 |0,j=>by cases j<;>trivial
 |n+1,j=>by
  have ih:=u0 hS n;show Sound E j (step E (run E n) j);cases j with
  |code nt c tm mk h=>exact zX hS ih nt c tm mk h
  |ops nt all l tm mk h=>exact CF ih nt all l tm mk h
  |draw nt W all base i M prev l tm h=>exact zW ih nt W all base i M prev l tm h
  |call fv as h=>exact zY hS ih fv as h
end
section
variable {E:Env} {g:Gh} {f:Hf} {w:World}
theorem aan (g:Gh) (w:World):HR g (Tr.nil:Hp).get w:=⟨fun id o h=>(by cases h),fun i j x y b c d h=>(by cases h)⟩
theorem U3 (hS:jk E) {n:Nat} {k:FuncId} {as:List SV} {v:SV} {h':Hs} (ea:run E n (.call (.fn (.func k) [] []) as ⟨.nil,0,[]⟩)= .res v h') (hgo:tG E (.fn (.func k) [] [])=true) (hE:bu E g) (hρ:∀x,g.ρ x=none)
  {us:List Value} (hus:VRs g us as) (m:Nat) (w:World):CallsIn Fence.wide m E.P k us.toArray w fun e w'=>∃r g',e= .returned r∧VR g' r v∧HR g' h'.hp.get w'∧Fr g (fun _=>none) w g' h'.hp.get w':=by
 have hs:=u0 hS n (.call (.fn (.func k) [] []) as ⟨.nil,0,[]⟩);rw[ea] at hs;have hb:Bd ⟨.nil,0,[]⟩:=fun x _=>rfl
 obtain ⟨_,_,sem⟩:=(show Bd ⟨.nil,0,[]⟩→_ from hs) hb;obtain ⟨k',fi,ca,fn,e1,hfn,fD⟩:=qP hgo;cases e1;obtain ⟨d,hd1,hd2⟩:=sem.one m g w (.func (.func k) #[] #[]) us hE (aan g w) (fun x _=>hρ x) (.fn .nil .nil) hus
 have hd:d={target:=.fn (.func k) #[],args:= #[]++us.toArray}:=by
  rw[py] at hd1;cases hd1;rfl
 subst hd;have oj:∀(args:Array Value) (w:World),(invoke (.fn (.func k) #[]) args).run E.P w=(callFunc k (args++ #[])).run E.P w:=fun _ _=>rfl
 rcases fU (hS.fn k fn hfn).1 fD (#[]++us.toArray++ #[]) w with ⟨hc,_⟩|hc
 ·rcases hd2 with ⟨k',as',q1,q2⟩|⟨l,k',t',as',b',q1,_⟩|⟨r,w',q1,_⟩<;>(rw[oj,hc] at q1;cases q1)
 ·rcases hd2 with ⟨k',as',q1,q2⟩|⟨l,k',t',as',b',q1,_⟩|⟨r,w',q1,_⟩
  ·rw[oj,hc] at q1;cases q1;have e: #[]++us.toArray++ #[]=us.toArray:=by simp
   rw[e] at q2;refine CallsIn.mono q2 ?_;rintro e w' ⟨r,rfl,g',h1,h2,h3,_,_⟩;exact ⟨r,g',rfl,h1,h2,h3⟩
  ·rw[oj,hc] at q1;cases q1
  ·rw[oj,hc] at q1;cases q1
def gh0 (P:Program) (η:Nat→Int):Gh:=⟨η,P.cellsOf,fun _=>none,fun _=>0,fun _=>0,fun _=>none⟩
theorem Fr.old0 {g g':Gh} {h':Hf} {w w':World} (h:Fr g (fun _=>none) w g' h' w'):∀b,b<w.heap.size→w'.heap[b]? =w.heap[b]? :=
 fun b hb=>h.old b hb (fun ⟨id,o,c,h1,_⟩=>by cases h1)
theorem Fr.still {g g':Gh} {h':Hf} {w w':World} (h:Fr g (fun _=>none) w g' h' w'):BP w w':=⟨h.os,h.tape,h.output,h.size,h.old0⟩
theorem afo (hS:jk E) (hE:bu E (gh0 E.P fun _=>0)) {n:Nat} {k:FuncId} {b:Bool} {h':Hs} (ea:run E n (.call (.fn (.func k) [] []) [] ⟨.nil,0,[]⟩)= .res (.bool b) h') (hgo:tG E (.fn (.func k) [] [])=true) (zr:∀fn,E.fn.get k=some fn→nn fn.name=false):BW E.P k (.bool b):=by
 obtain ⟨k',fi,ca,fn,e1,hfn,fD⟩:=qP hgo;cases e1;refine ⟨⟨fn,(hS.fn k fn hfn).1,fD,fun hc=>by have:=zr fn hfn;rw[hc] at this;revert this;decide⟩,fun m w=> ?_⟩
 refine CallsIn.mono (U3 hS ea hgo hE (fun _=>rfl) .nil m w) ?_
 rintro e w' ⟨r,g',rfl,h1,h2,h3⟩;refine ⟨r,rfl,fun g=> ?_,h3.still⟩
 cases h1;exact .bool b
theorem nU.mono {E E':Env} {m:Mo} (h:nU E m) (hP:E'.P=E.P) (hE:∀g,bu E' g→bu E g):nU E' m:=by
 obtain ⟨h1,h2,h3⟩:=h;refine ⟨by rw[hP];exact h1,h2,fun j g w us he hr hf hu=>by rw[hP];exact h3 j g w us (hE g he) hr hf hu⟩
def jj {α:Type} (Q:Nat→α→Prop):Tr α→(Nat→Nat)→Prop
 | .nil,_=>True
 | .node l v r,φ=>(match v with|none=>True|some x=>Q (φ 0) x)∧jj Q l (fun j=>φ (2*j+1))∧jj Q r (fun j=>φ (2*j+2))
theorem jj.get {α:Type} {Q:Nat→α→Prop}:∀{t:Tr α} {φ:Nat→Nat},jj Q t φ→∀i x,t.get i=some x→Q (φ i) x
 | .nil,_,_,i,x,h=>by cases h
 | .node l v r,φ,⟨h1,h2,h3⟩,i,x,h=>by
  rw[Tr.pQ] at h;split at h
  ·rename_i e;subst e;subst h;exact h1
  ·split at h
   ·rename_i e1 e2;have:=jj.get h2 _ x h;have e:2*(i / 2)+1=i:=by omega
    simp only[e] at this;exact this
   ·rename_i e1 e2;have:=jj.get h3 _ x h;have e:2*(i / 2-1)+2=i:=by omega
    simp only[e] at this;exact this
def CD:TypeDesc→UD
 | .bool=>.bool
 | .int k=>.int k
 | .string=>.string
 | .pointer _=>.pointer
 | .slice e=>.slice e
 | .array n e=>.array n e
 | .map k e=>.map k e
 | .struct fs=>.struct (fs.toList.map fun f=>FL.mk f.type f.offset (!(f.name== "_")))
 | .func _ _ _=>.func
 | .interface _=>.interface
 |_=>.other
def AZ (P:Program):List Field→Bool
 | []=>true
 |f::fs=>(P.info? f.type).isSome&&AZ P fs
def ajk (P:Program):TypeDesc→Bool
 | .struct fs=>AZ P fs.toList
 | .bool| .int _| .string| .pointer _| .slice _| .array _ _| .map _ _| .func _ _ _| .interface _=>true
 |_=>false
def BN:List Value→Bool
 | []=>true
 |v::vs=>v.oneCell'&&BN vs
def Kv:Value→Bool
 | .agg _=>true
 |_=>false
def aaU (agg:Bool) (size:Nat) (z:Value):Bool:=BN z.cells.toList&&sel agg (Kv z&&Nat.beq z.cells.toList.length size) z.oneCell'
def PK (P:Program) (t:TypeId):Option TI:=
 aH (P.underlying t) (P.info? t) fun d f=>ah f.zero fun z=>sel (ajk P d&&aaU (eJ (CD d)) f.size z) (some ⟨CD d,f.size,f.bytes,gT z.cells.toList,f.comparable⟩) none
theorem yF {P:Program}:∀{fs:List Field},AZ P fs=true→∀f∈fs,(P.info? f.type).isSome=true
 | [],_,f,hf=>by simp at hf
 |x::fs,h,f,hf=>by
  unfold AZ at h;rw[Bool.and_eq_true] at h;rcases List.mem_cons.1 hf with rfl|hf
  ·exact h.1
  ·exact yF h.2 f hf
theorem BM (g:Gh):∀{vs:List Value},BN vs=true→VCs g vs (gT vs)
 | [],_=>.nil
 |v::vs,h=>by
  unfold BN at h;rw[Bool.and_eq_true] at h;exact .cons h.1 (l6 g v) (BM g h.2)
theorem qT:∀(vs:List Value),(gT vs).length=vs.length
 | []=>rfl
 |v::vs=>by show (j8 v::gT vs).length=_;simp[qT vs]
theorem Tz {P : Program} {t : TypeId} {i : TI} (h : PK P t = some i) : qj P t i := by
  obtain ⟨d, fi, hd, hf, h⟩ := ay h
  obtain ⟨z, hz, h⟩ := ae h
  obtain ⟨hc, h⟩ := aq h
  cases h
  rw [Bool.and_eq_true] at hc
  obtain ⟨hdb, hzb⟩ := hc
  unfold aaU at hzb
  rw [Bool.and_eq_true] at hzb
  obtain ⟨ha, hzb⟩ := hzb
  refine ⟨?_, fi, z, hf, rfl, rfl, rfl, hz, ⟨fun g => BM g ha, fun pO => ?_, fun pO => ?_⟩, fun pO => ?_⟩
  · show ql P t (CD d)
    cases d <;> first
      | exact hd
      | exact ⟨_, hd⟩
      | exact ⟨_, _, _, hd⟩
      | (refine ⟨_, hd, ?_, yF hdb⟩
         refine List.map_congr_left fun f _ => ?_
         by_cases hn : f.name = "_" <;> simp [hn])
      | (cases hdb; done)
  · have pO : eJ (CD d) = true := pO
    rw [pO] at hzb
    have hzb : (Kv z && Nat.beq z.cells.toList.length fi.size) = true := hzb
    rw [Bool.and_eq_true] at hzb
    cases z <;> first | exact ⟨_, rfl⟩ | (cases hzb.1; done)
  · have pO : eJ (CD d) = false := pO
    rw [pO] at hzb
    exact hzb
  · have pO : eJ (CD d) = true := pO
    rw [pO] at hzb
    have hzb : (Kv z && Nat.beq z.cells.toList.length fi.size) = true := hzb
    rw [Bool.and_eq_true] at hzb
    show (gT z.cells.toList).length = fi.size
    rw [qT]
    exact (beq_iff _ _).1 hzb.2
end
end Go.Sim
namespace Go.Sim
section
def vm (fn:Func):Bool:=fn.body.isSome|| !(fn.name== "internal/bytealg.abigen_runtime_cmpstring")
def amB (P:Program) (k:Nat) (fn:Func):Prop:=P.funcs[k]? =some fn∧Rh fn=true∧(vm fn=true∨(Extern.findNext fn=none∧Extern.find fn=some Extern.BytealgCompare.compare))
def amy (P:Program) (t:Nat) (i:TI):Prop:=PK P t=some i
structure xr (P:Program) (ty:Tr TI) (fn:Tr Func):Prop where
 ty:jj (amy P) ty id
 fn:jj (amB P) fn id
 mix:P.follows .mixedOrders=true
variable {P:Program} {ty:Tr TI} {fn:Tr Func}
theorem xr.envS (h:xr P ty fn) {lt eq:List (SI×SI×Bool)} {done:List (Nat×SV)} {join:List Nat} {jv:List (Nat×Nat)} {fL:List Mo} {stop:List Nat} (hd:∀k v,qQ k done=some v→BW P k v) (ht:∀k t,zU k t jv=true→XZ P k t) (hm:∀m∈fL,nU ⟨P,ty,fn,lt,eq,done,join,jv,fL,stop⟩ m):jk ⟨P,ty,fn,lt,eq,done,join,jv,fL,stop⟩:=by
 refine ⟨fun k fn hk=> ?_,fun k fn hk hb hn=> ?_,h.mix,fun k v hk=>hd k v hk,ht,hm⟩
 ·obtain ⟨h1,h2,_⟩:=jj.get h.fn k fn hk;exact ⟨h1,h2⟩
 ·obtain ⟨_,_,h3⟩:=jj.get h.fn k fn hk;rcases h3 with h3|h3
  ·unfold vm at h3;rw[hb,hn] at h3;cases h3
  ·exact h3
theorem xr.adU (h:xr P ty fn) {lt eq:List (SI×SI×Bool)} {done:List (Nat×SV)} {join:List Nat} {jv:List (Nat×Nat)} {fL:List Mo} {stop:List Nat} {η:Nat→Int} (hlt:∀a b r,(a,b,r)∈lt→decide (a.ev η<b.ev η)=r) (heq:∀a b r,(a,b,r)∈eq→decide (a.ev η=b.ev η)=r):
  bu ⟨P,ty,fn,lt,eq,done,join,jv,fL,stop⟩ (gh0 P η):=
 ⟨fun t i hi=>Tz (jj.get h.ty t i hi),fun f x hx=>(jj.get h.fn f x hx).1,hlt,heq,h.mix,fun _=>rfl⟩
theorem nU.facts {lt eq lt' eq':List (SI×SI×Bool)} {done ajj:List (Nat×SV)} {join aiO:List Nat} {jv aiv:List (Nat×Nat)} {fL aiI:List Mo} {stop aix:List Nat} {m:Mo} (h:nU ⟨P,ty,fn,lt,eq,done,join,jv,fL,stop⟩ m) (hl:∀x∈lt,x∈lt') (he:∀x∈eq,x∈eq'):
  nU ⟨P,ty,fn,lt',eq',ajj,aiO,aiv,aiI,aix⟩ m:=
 h.mono rfl fun g k=>⟨k.ty,k.fn,fun a b r hm=>k.lt a b r (hl _ hm),fun a b r hm=>k.eq a b r (he _ hm),k.mix,k.sz⟩
def YQ (o:Out):Option Bool:=match o with| .bM [⟨false,.bool b,_⟩]=>some b|_=>none
theorem U7 {o:Out} {b:Bool} (h:YQ o=some b):∃h',o= .res (.bool b) h':=by
 unfold YQ at h;split at h
 ·cases h;exact ⟨_,rfl⟩
 ·cases h
def why (o:Out):String:=match o with| .bM [⟨false,.bool b,_⟩]=>(match b with|true=> "true" |false=> "false")| .bM [_]=> "res" | .bM _=> "ress" | .fail s=>s|_=> "other"
end
end Go.Sim
namespace Go.Sim
open Go.RowKit
structure Still (w w':World):Prop where
 os:w'.os=w.os
 output:w'.output=w.output
 heap:∀b,b<w.heap.size→w'.heap[b]? =w.heap[b]?
theorem Still.kept {w w':World} (h:Still w w') (may:MemPlace→Prop):w.keptBut w' may:=by
 refine ⟨h.os,h.output,fun i hi=> ?_⟩
 rw[h.heap i hi];cases hc:w.heap[i]? with
 |none=>rfl
 |some o=>cases o<;>first|exact ⟨rfl,rfl,rfl,fun _ _=>rfl⟩|exact .inr ⟨rfl,rfl⟩|rfl
end Go.Sim
namespace Go.Sim
def alt {α:Type} (l:List α):Bool→List α:= @List.rec α (fun _=>Bool→List α) (fun _=> []) (fun x _ ih b=>sel b (x::ih false) (ih true)) l
def HS {α:Type} (d:Nat):List (Option α)→Tr α:= @Nat.rec (fun _=>List (Option α)→Tr α) (fun _=>.nil) (fun _ ih l=> @List.rec (Option α) (fun _=>Tr α) .nil (fun x xs _=>.node (ih (alt xs true)) x (ih (alt xs false))) l) d
theorem xq {α:Type}:∀(l:List α) (j:Nat),(alt l true)[j]? =l[2*j]? ∧(alt l false)[j]? =l[2*j+1]?
 | [],j=>⟨by simp[alt],by simp[alt]⟩
 |x::l,j=>by
  have h1:alt (x::l) true=x::alt l false:=rfl;have h2:alt (x::l) false=alt l true:=rfl;rw[h1,h2];constructor
  ·cases j with
   |zero=>rfl
   |succ j=>rw[List.getElem?_cons_succ,(xq l j).2,show 2*(j+1)=(2*j+1)+1 by omega,List.getElem?_cons_succ]
  ·rw[(xq l j).1,List.getElem?_cons_succ]
theorem sU {α:Type} {Q:Nat→α→Prop}:∀(d:Nat) (l:List (Option α)) (φ:Nat→Nat),(∀i x,l[i]? =some (some x)→Q (φ i) x)→jj Q (HS d l) φ
 |0,_,_,_=>trivial
 |d+1,[],_,_=>trivial
 |d+1,x::xs,φ,H=>by
  show jj Q (.node (HS d (alt xs true)) x (HS d (alt xs false))) φ;unfold jj;refine ⟨?_,sU d _ _ fun i y h=> ?_,sU d _ _ fun i y h=> ?_⟩
  ·cases x with
   |none=>trivial
   |some x=>exact H 0 x rfl
  ·rw[(xq xs i).1] at h;exact H (2*i+1) y (by rw[List.getElem?_cons_succ];exact h)
  ·rw[(xq xs i).2] at h;exact H (2*i+2) y (by rw[show 2*i+2=(2*i+1)+1 from rfl,List.getElem?_cons_succ];exact h)
def aaV (P:Program) (n:Nat):Tr TI:=HS 10 ((List.range n).map (PK P))
def adP (P:Program):Tr Func:=HS 10 (P.funcs.toList.map some)
def ahL (e:Nat) (l:List Bool):Bool:= @List.rec Bool (fun _=>Nat→Bool) (fun _=>true) (fun b _ ih k=>sel (b||Nat.beq k e) (ih (k+1)) false) l 0
theorem BO {e:Nat}:∀(l:List Bool) (k i:Nat),(@List.rec Bool (fun _=>Nat→Bool) (fun _=>true) (fun b _ ih k=>sel (b||Nat.beq k e) (ih (k+1)) false) l k)=true→l[i]? =some false→k+i=e
 | [],k,i,_,h=>by simp at h
 |b::l,k,i,h,hi=>by
  have h:sel (b||Nat.beq k e) (@List.rec Bool (fun _=>Nat→Bool) (fun _=>true) (fun b _ ih k=>sel (b||Nat.beq k e) (ih (k+1)) false) l (k+1)) false=true:=h
  cases i with
  |zero=>
   have:b=false:=by simpa using hi
   subst this;cases hk:Nat.beq k e with
   |true=>exact Nat.eq_of_beq_eq_true hk
   |false=>rw[hk] at h;cases h
  |succ i=>
   cases hb:(b||Nat.beq k e) with
   |false=>rw[hb] at h;cases h
   |true=>
    rw[hb] at h;have:=BO l (k+1) i h (by simpa using hi)
    omega
theorem afM {P:Program} (n e:Nat) {fe:Func} (h0:(P.funcs.toList.all fun f=>Rh f)=true) (h1:ahL e (P.funcs.toList.map vm)=true) (he:P.funcs[e]? =some fe) (h2:Extern.findNext fe=none) (h3:Extern.find fe=some Extern.BytealgCompare.compare) (hm:P.follows .mixedOrders=true):xr P (aaV P n) (adP P):=by
 refine ⟨sU _ _ _ fun i x h=> ?_,sU _ _ _ fun i x h=> ?_,hm⟩
 ·rw[List.getElem?_map] at h;cases hr:(List.range n)[i]? with
  |none=>rw[hr] at h;cases h
  |some j=>
   rw[hr] at h;have hj:PK P j=some x:=by simpa using h
   have:=List.getElem?_eq_some_iff.1 hr;obtain ⟨h1,h2⟩:=this;have e:i=j:=by simpa using h2
   subst e;exact hj
 ·rw[List.getElem?_map] at h;cases hr:P.funcs.toList[i]? with
  |none=>rw[hr] at h;cases h
  |some f=>
   rw[hr] at h;have hf:f=x:=by simpa using h
   subst hf;have hm:f∈P.funcs.toList:=List.mem_of_getElem? hr;have hp:P.funcs[i]? =some f:=by simpa using hr
   refine ⟨hp,List.all_eq_true.1 h0 f hm,?_⟩;cases hb:vm f with
   |true=>exact .inl rfl
   |false=>
    have:=BO (e:=e) (P.funcs.toList.map vm) 0 i h1 (by rw[List.getElem?_map,hr];simp[hb])
    have ei:i=e:=by omega
    subst ei;rw[hp] at he;cases he;exact .inr ⟨h2,h3⟩
section
def bB (E:Env) (j:Job) (o:Out):Prop:=∃n0,∀n,n0≤n→run E n j=o
variable {E:Env} {nt:Nat} {tm tm1 tm2:Tr SV} {h h1 h2:Hs} {o:Out}
theorem bB.step {j:Job} (hs:∃n0,∀n,n0≤n→step E (run E n) j=o):bB E j o:=by
 obtain ⟨n0,hs⟩:=hs;refine ⟨n0+1,fun n hn=> ?_⟩
 obtain ⟨m,rfl⟩:∃m,n=m+1:=⟨n-1,by omega⟩
 exact hs m (by omega)
theorem bB.skip:bB E (.code nt .skip tm [] h) (.code .normal tm [] h):=.step ⟨0,fun _ _=>rfl⟩
theorem bB.exit {id:Nat}:bB E (.code nt (.exit id) tm [] h) (.code (.exit id) tm [] h):=.step ⟨0,fun _ _=>rfl⟩
theorem bB.ret:bB E (.code nt .ret tm [] h) (.code .ret tm [] h):=.step ⟨0,fun _ _=>rfl⟩
theorem bB.seq {a b:Code} (ha:bB E (.code nt a tm [] h) (.code .normal tm1 [] h1)) (hb:bB E (.code nt b tm1 [] h1) o):bB E (.code nt (.seq a b) tm [] h) o:=by
 obtain ⟨n1,e1⟩:=ha;obtain ⟨n2,e2⟩:=hb;refine .step ⟨n1+n2,fun n hn=> ?_⟩
 show ru (run E n (.code nt a tm [] h)) (fun tm' mk' h'=>run E n (.code nt b tm' mk' h'))=o
 rw[e1 n (by omega)]
 exact e2 n (by omega)
theorem bB.agc {a b:Code} {e:Ex} (he:dY e=false) (ha:bB E (.code nt a tm [] h) (.code e tm1 [] h1)):bB E (.code nt (.seq a b) tm [] h) (.code e tm1 [] h1):=by
 obtain ⟨n1,e1⟩:=ha;refine .step ⟨n1,fun n hn=> ?_⟩
 show ru (run E n (.code nt a tm [] h)) (fun tm' mk' h'=>run E n (.code nt b tm' mk' h'))=_
 rw[e1 n hn];cases e<;>first|rfl|(cases he;done)
theorem bB.RQ {c:Operand} {a b:Code} (hc:aK tm.get c=some (.bool true)) (ha:bB E (.code nt a tm [] h) o):bB E (.code nt (.cond c a b) tm [] h) o:=by
 obtain ⟨n1,e1⟩:=ha;refine .step ⟨n1,fun n hn=> ?_⟩
 show BA (aK tm.get c) (run E n (.code nt a tm [] h)) (run E n (.code nt b tm [] h))=o;rw[hc];exact e1 n hn
theorem bB.RR {c:Operand} {a b:Code} (hc:aK tm.get c=some (.bool false)) (hb:bB E (.code nt b tm [] h) o):bB E (.code nt (.cond c a b) tm [] h) o:=by
 obtain ⟨n1,e1⟩:=hb;refine .step ⟨n1,fun n hn=> ?_⟩
 show BA (aK tm.get c) (run E n (.code nt a tm [] h)) (run E n (.code nt b tm [] h))=o;rw[hc];exact e1 n hn
theorem bB.block {id:Nat} {c:Code} {e:Ex} (ha:bB E (.code nt c tm [] h) (.code e tm1 [] h1)):bB E (.code nt (.block id c) tm [] h) (.code (leave id e) tm1 [] h1):=by
 obtain ⟨n1,e1⟩:=ha;refine .step ⟨n1,fun n hn=> ?_⟩
 show BJ id (run E n (.code nt c tm [] h))=_;rw[e1 n hn];rfl
theorem bB.loop {c:Code} (ha:bB E (.code nt c tm [] h) (.code .normal tm1 [] h1)) (hb:bB E (.code nt (.loop c) tm1 [] h1) o):bB E (.code nt (.loop c) tm [] h) o:=by
 obtain ⟨n1,e1⟩:=ha;obtain ⟨n2,e2⟩:=hb;refine .step ⟨n1+n2,fun n hn=> ?_⟩
 show ru (run E n (.code nt c tm [] h)) (fun tm' mk' h'=>run E n (.code nt (.loop c) tm' mk' h'))=o
 rw[e1 n (by omega)]
 exact e2 n (by omega)
theorem bB.aeY {c:Code} {e:Ex} (he:dY e=false) (ha:bB E (.code nt c tm [] h) (.code e tm1 [] h1)):bB E (.code nt (.loop c) tm [] h) (.code e tm1 [] h1):=by
 obtain ⟨n1,e1⟩:=ha;refine .step ⟨n1,fun n hn=> ?_⟩
 show ru (run E n (.code nt c tm [] h)) (fun tm' mk' h'=>run E n (.code nt (.loop c) tm' mk' h'))=_
 rw[e1 n hn];cases e<;>first|rfl|(cases he;done)
theorem bB.region {id:Nat} {ops:Array Oper} (ha:bB E (.ops nt ops.toList ops.toList tm [] h) o):bB E (.code nt (.region id ops false) tm [] h) o:=by
 obtain ⟨n1,e1⟩:=ha;exact .step ⟨n1,fun n hn=>e1 n hn⟩
theorem bB.drawn {id:Nat} {ops:Array Oper} (ha:bB E (.draw nt ops.size ops.toList h.nx 0 0 [] ops.toList tm ⟨h.hp,Nat.add h.nx ops.size,h.lg⟩) (.st tm1 h1)):bB E (.code nt (.region id ops true) tm [] h) (.code .normal tm1 [] h1):=by
 obtain ⟨n1,e1⟩:=ha;refine .step ⟨n1,fun n hn=> ?_⟩
 show stK (run E n (.draw nt ops.size ops.toList h.nx 0 0 [] ops.toList tm ⟨h.hp,Nat.add h.nx ops.size,h.lg⟩)) (fun e tm' _ h'=>.code e tm' [] h') (fun tm' h'=>.code .normal tm' [] h')= .code .normal tm1 [] h1
 rw[e1 n hn];rfl
theorem bB.agl {all:List Oper}:bB E (.ops nt all [] tm [] h) (.code .normal tm [] h):=.step ⟨0,fun _ _=>rfl⟩
theorem bB.agk {all l:List Oper} {p:Oper} {v:SV} {us:List Up} (hd:cf nt p.dst=true) (hw:bH all p tm.get=some true) (hc:dq p.op=none) (hdf:lH p.op=none) (hp:j4 p.op=none) (hn:lQ p.op=none)
  (hv:opA E p.op tm.get h.hp.get h.nx=some (v,us)) (ha:bB E (.ops nt all l (bc tm p.dst v) [] (h.fin us)) o):bB E (.ops nt all (p::l) tm [] h) o:=by
 obtain ⟨n1,e1⟩:=ha;refine .step ⟨n1,fun n hn'=> ?_⟩
 show sel (cf nt p.dst) (wK E (run E n) nt all l tm [] h p (bH all p tm.get)) (.fail "slot")=o;rw[hd,hw];show doK E (run E n) nt all l tm [] h p (dq p.op)=o;rw[hc];show Ft E (run E n) nt all l tm [] h p (lH p.op) (j4 p.op)=o;rw[hdf,hp];show Am E (run E n) nt all l tm [] h p (lQ p.op)=o;rw[hn];show Py (run E n) nt all l tm [] h p (opA E p.op tm.get h.hp.get h.nx)=o;rw[hv];exact e1 n hn'
theorem bB.aeN {all l:List Oper} {p:Oper} (hd:cf nt p.dst=true) (hw:bH all p tm.get=some false) (ha:bB E (.ops nt all l (bc tm p.dst (.tup [])) [] h) o):bB E (.ops nt all (p::l) tm [] h) o:=by
 obtain ⟨n1,e1⟩:=ha;refine .step ⟨n1,fun n hn'=> ?_⟩
 show sel (cf nt p.dst) (wK E (run E n) nt all l tm [] h p (bH all p tm.get)) (.fail "slot")=o;rw[hd,hw];exact e1 n hn'
theorem bB.aeO {all l:List Oper} {p:Oper} {c:Call} {f:SV} {as:List SV} {v:SV} (hd:cf nt p.dst=true) (hw:bH all p tm.get=some true) (hc:dq p.op=some c) (hf:eL tm.get c.callee=some f) (has:bJ tm.get c.args.toList=some as)
  (hv:bB E (.call f as h) (.res v h1)) (ha:bB E (.ops nt all l (bc tm p.dst v) [] h1) o):bB E (.ops nt all (p::l) tm [] h) o:=by
 obtain ⟨n1,e1⟩:=ha;obtain ⟨n2,e2⟩:=hv;refine .step ⟨n1+n2,fun n hn'=> ?_⟩
 show sel (cf nt p.dst) (wK E (run E n) nt all l tm [] h p (bH all p tm.get)) (.fail "slot")=o;rw[hd,hw];show doK E (run E n) nt all l tm [] h p (dq p.op)=o;rw[hc];show goK (run E n) h (eL tm.get c.callee) (bJ tm.get c.args.toList) (iW (run E n) nt all l tm [] p.dst) (fun v h=>.code (.pan v) tm [] h)=o
 rw[hf,has];show Df (run E n (.call f as h)) (iW (run E n) nt all l tm [] p.dst) (fun v h=>.code (.pan v) tm [] h)=o
 rw[e2 n (by omega)]
 exact e1 n (by omega)
structure xu (E:Env) (k:Nat) (fn:Func) (c:Code):Prop where
 get:E.fn.get k=some fn
 body:fn.body=some c
 num:nn fn.name=false
 done:qQ k E.done=none
 fL:E.fL= []
 stop:E.stop= []
 jv:E.jv= []
 join:E.join= []
theorem bB.call {k:Nat} {fn:Func} {c:Code} (hk:xu E k fn c) {fi as ca vs:List SV} {e:Ex} (hl:Nat.ble (fi++as++ca).length fn.ntmps=true) (he:pF e=true)
  (hb:bB E (.code fn.ntmps c (setArgs (fi++as++ca) 0 .nil) [] ⟨h.hp,h.nx,[]⟩) (.code e tm1 [] h1)) (hr:fV E tm1.get h1.hp.get fn.results.toList=some vs):
  bB E (.call (.fn (.func k) fi ca) as h) (.res (oneOf vs) ⟨h1.hp,h1.nx,below h.nx h1.lg h.lg⟩):=by
 obtain ⟨n1,e1⟩:=hb;refine .step ⟨n1,fun n hn'=> ?_⟩
 show @Option.rec SV (fun _=>Out) (@Option.rec Mo (fun _=>Out) (sel (cz k E.stop) (.g8 k (fi++as++ca) h) (sel (gn E k (fi++as++ca)) (.res (.tup []) h) (tI E (run E n) k (E.fn.get k) (fi++as++ca) h))) (fun m=>.res m.v (qJ m h)) (jL k (fi++as++ca) h E.fL)) (fun v=>.res v h) (jM E k (fi++as++ca))=_
 have ed:jM E k (fi++as++ca)=none:=by
  generalize fi++as++ca=l;cases l with
  |nil=>exact hk.done
  |cons _ _=>rfl
 have et:gn E k (fi++as++ca)=false:=by
  unfold gn;split
  ·rw[hk.jv];rfl
  ·rfl
 rw[ed];show @Option.rec Mo (fun _=>Out) (sel (cz k E.stop) (.g8 k (fi++as++ca) h) (sel (gn E k (fi++as++ca)) (.res (.tup []) h) (tI E (run E n) k (E.fn.get k) (fi++as++ca) h))) (fun m=>.res m.v (qJ m h)) (jL k (fi++as++ca) h E.fL)=_
 rw[hk.fL];show sel (cz k E.stop) (.g8 k (fi++as++ca) h) (sel (gn E k (fi++as++ca)) (.res (.tup []) h) (tI E (run E n) k (E.fn.get k) (fi++as++ca) h))=_;rw[hk.stop,et,hk.get];show @Option.rec Code (fun _=>Out) (Le fn (fi++as++ca) h) (fun c=>sel (Nat.ble (fi++as++ca).length fn.ntmps) (sel (nn fn.name) (.fail "NumGoroutine") (w7 (cz k E.join) h.nx (vg E (run E n) fn h.nx h.lg (run E n (.code fn.ntmps c (setArgs (fi++as++ca) 0 .nil) [] ⟨h.hp,h.nx,[]⟩))))) (.fail "args")) fn.body=_
 rw[hk.body];show sel (Nat.ble (fi++as++ca).length fn.ntmps) (sel (nn fn.name) (.fail "NumGoroutine") (w7 (cz k E.join) h.nx (vg E (run E n) fn h.nx h.lg (run E n (.code fn.ntmps c (setArgs (fi++as++ca) 0 .nil) [] ⟨h.hp,h.nx,[]⟩))))) (.fail "args")=_;rw[hl,hk.num,hk.join];show vg E (run E n) fn h.nx h.lg (run E n (.code fn.ntmps c (setArgs (fi++as++ca) 0 .nil) [] ⟨h.hp,h.nx,[]⟩))=_;rw[e1 n hn'];have key:iG E (run E n) fn tm1 [] none h1= .res (oneOf vs) h1:=by
  show @Option.rec (List SV) (fun _=>Out) (.fail fn.name) (fun vs=>.res (oneOf vs) h1) (fV E tm1.get h1.hp.get fn.results.toList)=_
  rw[hr]
 cases e<;>first
  |(show By h.nx h.lg (iG E (run E n) fn tm1 [] none h1)=_;rw[key];rfl)
  |(cases he;done)
theorem bB.done {k:Nat} {v:SV} (hd:qQ k E.done=some v):bB E (.call (.fn (.func k) [] []) [] h) (.res v h):=by
 refine .step ⟨0,fun n _=> ?_⟩
 show @Option.rec SV (fun _=>Out) _ (fun v=>.res v h) (qQ k E.done)=_
 rw[hd]
theorem bB.fuel {j:Job} (hg:bB E j o):∃n,run E n j=o:=by
 obtain ⟨n,hn⟩:=hg;exact ⟨n,hn n (Nat.le_refl _)⟩
end
end Go.Sim
end
