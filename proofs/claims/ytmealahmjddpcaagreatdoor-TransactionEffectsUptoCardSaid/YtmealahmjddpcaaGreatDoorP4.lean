/- Texts that belong together. The first: Soundness: code. -/
import Derived.Test.YtmealahmjddpcaaGreatDoorP3
import Derived.RangeFuncRecord
import Derived.RangeFuncLeaves
import Derived.RecoverIn
import Derived.ProofKit
import Derived.OpenShut
set_option linter.all false
noncomputable section
namespace Go.Sim
open Go.RowKit
section
section
variable {F:Fence} {n:Nat} {P:Program} {Q:Exit→Act→World→Prop} {a:Act} {w:World} {c:Code}
theorem Fi (h:c.wpIn F n P (Exit.then (AB F n P c Q) Q) a w):AB F n P c Q a w:=by
 intro b k cs hro hb hr;obtain ⟨e,a₁,w₁,hq,jn⟩:=h b (.inLoop c::k) cs hro hb hr;cases e with
 |normal=>
  obtain ⟨e₂,a₂,w₂,ahQ,aeh⟩:=hq b k cs hro hb hr;exact ⟨e₂,a₂,w₂,ahQ,.of_steps (StepsIn.trans jn (.one (fenced_calm hb hr rfl) stepR_inLoop)) aeh⟩
 |exit id=>exact ⟨_,a₁,w₁,hq,.pass (x:=.inLoop c) rfl (fun _ _=>.inl (by simp)) jn⟩
 |goto l=>exact ⟨_,a₁,w₁,hq,.pass (x:=.inLoop c) rfl (fun _ _=>.inl (by simp)) jn⟩
 |ret=>exact ⟨_,a₁,w₁,hq,.pass (x:=.inLoop c) rfl (fun _ _=>.inl (by simp)) jn⟩
 |panic ch=>exact ⟨_,a₁,w₁,hq,.pass (x:=.inLoop c) rfl (fun _ _=>.inl (by simp)) jn⟩
 |outgrown=>exact ⟨_,a₁,w₁,hq,.pass (x:=.inLoop c) rfl (fun _ _=>.inl (by simp)) jn⟩
theorem Cw (h:AB F n P c Q a w):(Code.loop c).wpIn F n P Q a w:=fun b k cs hro hb hr=>
 let ⟨e,a',w',hq,jn⟩:=h b k cs hro hb hr
 ⟨e,a',w',hq,.of_steps (.one (fenced_calm hb hr rfl) stepR_loop) jn⟩
theorem kU (h:wpX F n P c Q a w):c.wpIn F n P Q a w:=by
 cases c<;>first|exact h|exact Cw h
end
variable {E:Env} {g:Gh} {f:Hf} {w:World}
theorem okL {a b:Code} (h:codeOk (.seq a b)=true):codeOk a=true:=by
 have h:(codeOk a&&codeOk b)=true:=h;rw[Bool.and_eq_true] at h;exact h.1
theorem okR {a b:Code} (h:codeOk (.seq a b)=true):codeOk b=true:=by
 have h:(codeOk a&&codeOk b)=true:=h;rw[Bool.and_eq_true] at h;exact h.2
theorem DT.ahC {nt W:Nat} {ops:Array Oper} {base i:Nat} {prev:List St} {l:List Oper} {T:Tf} {F:Hf} {nx:Nat} {T':Tf} {F':Hf} {nx':Nat} {out:List St} (h:DT E nt W ops base i prev l T F nx T' F' nx' out):nx≤nx':=by
 induction h with
 |nil=>exact Nat.le_refl _
 |cons c h ih=>exact Nat.le_trans c.oh ih
theorem cX.seq {nt:Nat} {a b:Code} {tm:Tr SV} {mk:List Dm} {h:Hs} {l1 r:List Oc} (k1:cX E nt a tm mk h l1)
  (kin:∀o∈l1,(o.e= .normal∧∃r',cX E nt b o.tm o.dm o.h r'∧∀x∈r',x∈r)∨(o.e≠ .normal∧o∈r)) (YO:∀x∈r,∃o∈l1,(∃r',cX E nt b o.tm o.dm o.h r'∧x∈r')∨x=o):cX E nt (.seq a b) tm mk h r:=by
 obtain ⟨n1,f1,s1⟩:=k1;have hne:r≠ []:=by
  obtain ⟨o,ho⟩:=List.exists_mem_of_ne_nil _ n1;rcases kin o ho with ⟨_,r',⟨n2,_⟩,h2⟩|⟨_,h2⟩
  ·obtain ⟨x,hx⟩:=List.exists_mem_of_ne_nil _ n2;exact List.ne_nil_of_mem (h2 x hx)
  ·exact List.ne_nil_of_mem h2
 refine ⟨hne,fun x hx=> ?_,fun ro m g ac w Q hok hro hE hfr hr hm hnx hk=>wpIn_seq (kU ?_)⟩
 ·obtain ⟨o,ho,⟨r',⟨_,f2,_⟩,hx⟩|rfl⟩:=YO x hx
  ·exact ⟨(f1 o ho).1.trans (f2 x hx).1,gG.trans (f1 o ho).1.nx (f1 o ho).2 (f2 x hx).2⟩
  ·exact f1 x ho
 have hlen:∀o∈l1,ro=none∨o.dm.length=mk.length:=by
  intro o ho;rcases hro with hro|hro
  ·exact .inl hro
  ·refine .inr ?_;have h1:=(f1 o ho).2.1;rcases kin o ho with ⟨_,r',⟨n2,f2,_⟩,h2⟩|⟨_,h2⟩
   ·obtain ⟨x,hx⟩:=List.exists_mem_of_ne_nil _ n2;have h3:=(f2 x hx).2.1;have h4:=hro x (h2 x hx);omega
   ·exact hro o h2
 refine s1 ro m g ac w _ (okL hok) (by
  by_cases h:ro=none
  ·exact .inl h
  ·exact .inr fun o ho=>(hlen o ho).resolve_left h) hE hfr hr hm hnx (fun o ho g1 a1 w1 x q0 q1 q2 q3 q4 q5 q6=> ?_)
 rcases kin o ho with ⟨he,r',⟨n2,f2,s2⟩,h2⟩|⟨he,h2⟩
 ·rw[he] at q0;cases q0;refine kU (s2 ro m g1 a1 w1 Q (okR hok) (hro.imp_right fun hro z hz=> ?_) (hE.mono q3.le) q1 q2 q4 q5 (fun z hz g2 a2 w2 x r0 r1 r2 r3 r4 r5 r6=>hk z (h2 z hz) g2 a2 w2 x r0 r1 r2 (q3.trans r3) r4 r5 (fun y hy=>by rw[r6 y (Nat.lt_of_lt_of_le hy (f1 o ho).1.nx),q6 y hy])))
  have h1:=(f1 o ho).2.1;have h3:=(f2 z hz).2.1;have h4:=hro z (h2 z hz);omega
 ·have:=hk o h2 g1 a1 w1 x q0 q1 q2 q3 q4 q5 q6;generalize o.e=e at q0 he;cases q0 with
  |normal=>exact absurd rfl he
  |exit id=>exact this
  |ret=>exact this
  |pan hv=>exact this
theorem cX.loop {nt:Nat} {c:Code} {tm:Tr SV} {mk:List Dm} {h:Hs} {l1 r:List Oc} (k1:cX E nt c tm mk h l1)
  (kin:∀o∈l1,(o.e= .normal∧∃r',cX E nt (.loop c) o.tm o.dm o.h r'∧∀x∈r',x∈r)∨(o.e≠ .normal∧o∈r)) (YO:∀x∈r,∃o∈l1,(∃r',cX E nt (.loop c) o.tm o.dm o.h r'∧x∈r')∨x=o):cX E nt (.loop c) tm mk h r:=by
 obtain ⟨n1,f1,s1⟩:=k1;have hne:r≠ []:=by
  obtain ⟨o,ho⟩:=List.exists_mem_of_ne_nil _ n1;rcases kin o ho with ⟨_,r',⟨n2,_⟩,h2⟩|⟨_,h2⟩
  ·obtain ⟨x,hx⟩:=List.exists_mem_of_ne_nil _ n2;exact List.ne_nil_of_mem (h2 x hx)
  ·exact List.ne_nil_of_mem h2
 refine ⟨hne,fun x hx=> ?_,fun ro m g ac w Q hok hro hE hfr hr hm hnx hk=>Fi (kU ?_)⟩
 ·obtain ⟨o,ho,⟨r',⟨_,f2,_⟩,hx⟩|rfl⟩:=YO x hx
  ·exact ⟨(f1 o ho).1.trans (f2 x hx).1,gG.trans (f1 o ho).1.nx (f1 o ho).2 (f2 x hx).2⟩
  ·exact f1 x ho
 have hlen:∀o∈l1,ro=none∨o.dm.length=mk.length:=by
  intro o ho;rcases hro with hro|hro
  ·exact .inl hro
  ·refine .inr ?_;have h1:=(f1 o ho).2.1;rcases kin o ho with ⟨_,r',⟨n2,f2,_⟩,h2⟩|⟨_,h2⟩
   ·obtain ⟨x,hx⟩:=List.exists_mem_of_ne_nil _ n2;have h3:=(f2 x hx).2.1;have h4:=hro x (h2 x hx);omega
   ·exact hro o h2
 refine s1 ro m g ac w _ hok (by
  by_cases h:ro=none
  ·exact .inl h
  ·exact .inr fun o ho=>(hlen o ho).resolve_left h) hE hfr hr hm hnx (fun o ho g1 a1 w1 x q0 q1 q2 q3 q4 q5 q6=> ?_)
 rcases kin o ho with ⟨he,r',⟨n2,f2,s2⟩,h2⟩|⟨he,h2⟩
 ·rw[he] at q0;cases q0;refine s2 ro m g1 a1 w1 Q hok (hro.imp_right fun hro z hz=> ?_) (hE.mono q3.le) q1 q2 q4 q5 (fun z hz g2 a2 w2 x r0 r1 r2 r3 r4 r5 r6=>hk z (h2 z hz) g2 a2 w2 x r0 r1 r2 (q3.trans r3) r4 r5 (fun y hy=>by rw[r6 y (Nat.lt_of_lt_of_le hy (f1 o ho).1.nx),q6 y hy]))
  have h1:=(f1 o ho).2.1;have h3:=(f2 z hz).2.1;have h4:=hro z (h2 z hz);omega
 ·have:=hk o h2 g1 a1 w1 x q0 q1 q2 q3 q4 q5 q6;generalize o.e=e at q0 he;cases q0 with
  |normal=>exact absurd rfl he
  |exit id=>exact this
  |ret=>exact this
  |pan hv=>exact this
theorem PX (id i:Nat):leave id (.exit i)=if i=id then .normal else .exit i:=by
 show sel (Nat.beq i id) Ex.normal (.exit i)=_;rw[aC,beq_eq];by_cases h:i=id<;>simp[h]
theorem cX.block {nt id:Nat} {c:Code} {tm:Tr SV} {mk:List Dm} {h:Hs} {l r:List Oc} (k1:cX E nt c tm mk h l) (hr:∀x,x∈r↔∃o∈l,x=⟨leave id o.e,o.tm,o.dm,o.h⟩):cX E nt (.block id c) tm mk h r:=by
 obtain ⟨n1,f1,s1⟩:=k1;refine ⟨?_,fun x hx=> ?_,fun ro m g a w Q hok hro hE hfr hrr hm hnx hk=>wpIn_block (kU ?_)⟩
 ·obtain ⟨o,ho⟩:=List.exists_mem_of_ne_nil _ n1;exact List.ne_nil_of_mem ((hr ⟨leave id o.e,o.tm,o.dm,o.h⟩).2 ⟨o,ho,rfl⟩)
 ·obtain ⟨o,ho,rfl⟩:=(hr x).1 hx;exact f1 o ho
 refine s1 ro m g a w _ hok (hro.imp_right fun hro o ho=>hro ⟨leave id o.e,o.tm,o.dm,o.h⟩ ((hr _).2 ⟨o,ho,rfl⟩)) hE hfr hrr hm hnx (fun o ho g1 a1 w1 x q0 q1 q2 q3 q4 q5 q6=> ?_)
 have key:∀y,ExR g1 (leave id o.e) y→Q y a1 w1:=fun y hy=>hk ⟨leave id o.e,o.tm,o.dm,o.h⟩ ((hr _).2 ⟨o,ho,rfl⟩) g1 a1 w1 y hy q1 q2 q3 q4 q5 q6
 generalize he:o.e=e at q0 key;cases q0 with
 |normal=>exact key _ .normal
 |ret=>exact key _ .ret
 |pan hv=>exact key _ (.pan hv)
 |exit i=>
  rw[PX] at key;show (if i=id then Q .normal a1 w1 else Q (.exit i) a1 w1)
  split
  ·rename_i hi;rw[if_pos hi] at key;exact key _ .normal
  ·rename_i hi;rw[if_neg hi] at key;exact key _ (.exit i)
theorem cX.calm {nt:Nat} {c:Code} {tm:Tr SV} {mk:List Dm} {h:Hs} {e:Ex} (x:Exit) (hx:∀g,ExR g e x) (hb:Bd h) (hw:∀(ro:Option Nat) (m:Nat) (Q:Exit→Act→World→Prop) (a:Act) (w:World),Q x a w→wpX (fro ro) m E.P c Q a w):cX E nt c tm mk h [⟨e,tm,mk,h⟩]:=
 ⟨by simp,fun o ho=>by
  obtain rfl:=List.mem_singleton.1 ho;exact ⟨Fac.refl hb,gG.refl _ _⟩,fun ro m g a w Q _ _ hE hfr hr hm hnx hk=>hw ro m Q a w (hk ⟨e,tm,mk,h⟩ (by simp) g a w x (hx g) hfr hr (Fr.refl _ _ _) hm hnx fun _ _=>rfl)⟩
theorem cX.ops {nt id:Nat} {ops:Array Oper} {tm:Tr SV} {mk:List Dm} {h:Hs} {r:List Oc} (k:OpsS E nt ops ops.toList tm mk h r):cX E nt (.region id ops false) tm mk h r:=by
 obtain ⟨n1,f1,s1⟩:=k;refine ⟨n1,f1,fun ro m g a w Q hok hro hE hfr hr hm hnx hk=>wpIn_region ?_⟩
 have:=s1 ro m g a w Q hro hE hfr hr hm hnx hk;simpa[List.range_eq_range'] using this
theorem cX.draw {nt id:Nat} {ops:Array Oper} {tm tm1:Tr SV} {mk:List Dm} {h h1:Hs} {out:List St}
  (hf:RP h.nx 0 ops.size ⟨h.hp,Nat.add h.nx ops.size,h.lg⟩ h1) (hd:DT E nt ops.size ops h.nx 0 [] ops.toList tm.get h.hp.get (Nat.add h.nx ops.size) tm1.get h1.hp.get h1.nx out):cX E nt (.region id ops true) tm mk h [⟨.normal,tm1,mk,h1⟩]:=by
 have Zh:h.nx≤h1.nx:=Nat.le_trans (Nat.le_add_right _ _) hf.nx;refine ⟨by simp,fun o ho=> ?_,fun ro m g a w Q hok hro hE hfr hr hm hnx hk=> ?_⟩
 ·obtain rfl:=List.mem_singleton.1 ho;exact ⟨⟨Zh,hf.bd,fun x hx hn=>hf.lg x (Nat.lt_of_lt_of_le hx (Nat.le_add_right _ _)) (by omega) hn,hf.sub,fun x hx hn=>hf.dead x (Nat.lt_of_lt_of_le hx (Nat.le_add_right _ _)) (by omega) hn⟩,gG.refl _ _⟩
 exact yl (show mJ ops.size ops.toList ops.toList 0 0 []=true from hok) hE.mix (List.take_of_length_le (Nat.le_refl _)) hd (Nat.le_add_right _ _) hE hfr hr hnx (.inl (by simp)) (fun _ g1 a1 w1 q1 q2 q3 q4 q5 q6=>hk ⟨.normal,tm1,mk,h1⟩ (by simp) g1 a1 w1 _ .normal q1 q2 q3 (by rw[q4];exact hm.mono q3.le) q6 q5)
theorem cX.aen {nt id:Nat} {ops:Array Oper} {tm tm1:Tr SV} {mk:List Dm} {h h1:Hs} {out:List St} {l0:List Oper} {o:Oper} {F1:Hf} {nx1:Nat} {v:SV}
  (hf:RP h.nx 0 ops.size ⟨h.hp,Nat.add h.nx ops.size,h.lg⟩ h1) (hl:ops.toList=l0++ [o]) (hd:DT E nt ops.size ops h.nx 0 [] l0 tm.get h.hp.get (Nat.add h.nx ops.size) tm1.get F1 nx1 out) (hp:CndP E nt ops (0+l0.length) o tm1.get F1 nx1 v h1.hp.get h1.nx):cX E nt (.region id ops true) tm mk h [⟨.pan v,tm1,mk,h1⟩]:=by
 have Zh:h.nx≤h1.nx:=Nat.le_trans (Nat.le_add_right _ _) hf.nx;refine ⟨by simp,fun o ho=> ?_,fun ro m g a w Q hok hro hE hfr hr hm hnx hk=> ?_⟩
 ·obtain rfl:=List.mem_singleton.1 ho;exact ⟨⟨Zh,hf.bd,fun x hx hn=>hf.lg x (Nat.lt_of_lt_of_le hx (Nat.le_add_right _ _)) (by omega) hn,hf.sub,fun x hx hn=>hf.dead x (Nat.lt_of_lt_of_le hx (Nat.le_add_right _ _)) (by omega) hn⟩,gG.refl _ _⟩
 rw[Nat.zero_add] at hp;have hlen:=hp.last;refine yl (Q:=Q) (show mJ ops.size ops.toList ops.toList 0 0 []=true from hok) hE.mix (by rw[hl];simp) hd (Nat.le_add_right _ _) hE hfr hr hnx (.inr ⟨hlen,?_,hp.anc,fun g1 a1 w1 K q0 q1 q2 q3 q4 q5 q6=> ?_⟩) (fun he=>by omega)
 ·rw[vZ hp.op];exact hp.lt
 ·refine hp.sem ro m g1 a1 w1 Q K q0 q1 q2 q6 (fun u w2 g2 r1 r2 r3 r4 r5=> ?_)
  refine hk ⟨.pan v,tm1,mk,h1⟩ (by simp) g2 a1 w2 _ (.pan r1) (q1.mono r3.le) r2 (q3.trans r3) (by rw[q4];exact hm.mono (q3.trans r3).le) r5 (fun x hx=> ?_)
  have hb1:h.nx≤nx1:=by
   by_cases hc:h.nx≤nx1
   ·exact hc
   ·exfalso;have:=hd.ahC;have h3:h.nx≤Nat.add h.nx ops.size:=Nat.le_add_right _ _;omega
  rw[r4 x (by omega),q5 x hx]
theorem ss.zero (ops:Array Oper) (W:Nat):ss ops W 0 0:=fun p hp=>by simp at hp
theorem WW {j:Option Code} {tm:Tr SV} {mk:List Dm} {h:Hs} {Q:Out→Prop} (hf:∀s,Q (.fail s)) (h1:j=none→Q (.code .normal tm mk h)) (h2:j=some .ret→Q (.code .ret tm mk h)) (h3:∀id,j=some (.exit id)→Q (.code (.exit id) tm mk h)):Q (acy j tm mk h):=by
 cases j with
 |none=>exact h1 rfl
 |some c=>cases c<;>first|exact hf _|exact h2 rfl|exact h3 _ rfl
theorem PJ {s:LoopState} (h:Dr s=true):s≠ .busy:=by intro e;subst e;cases h
theorem oW (nt:Nat) (tm:Tr SV) (ps:List Nat) (aa bo:Code) (h:Hs):(ic nt tm ps aa bo h).hp.get=upF (upF h.hp.get (h.nx,some .dfr)) (h.nx+1,some (.loop nt tm ps aa bo .ready none h.nx)):=by
 funext x;show ((h.hp.set h.nx (some .dfr)).set (h.nx+1) (some (SO.loop nt tm ps aa bo .ready none h.nx))).get x=_;rw[Tr.bR,Tr.bR];rfl
theorem Q7 {nt:Nat} {tm:Tr SV} {ps:List Nat} {aa bo:Code} {h:Hs} (hb:Bd h):Fac h (ic nt tm ps aa bo h):=by
 refine ⟨Nat.le_add_right _ _,fun x hx=> ?_,fun x hx _=> ?_,fun _ hx=>hx,fun x hx hn=> ?_⟩
 ·have hx:h.nx+2≤x:=hx;rw[oW,upF,upF,if_neg (show x≠h.nx+1 by omega),if_neg (show x≠h.nx by omega)]
  exact hb x (by omega)
 ·rw[oW,upF,upF,if_neg (show x≠h.nx+1 by omega),if_neg (show x≠h.nx by omega)]
 ·rw[oW,upF,upF,if_neg (show x≠h.nx+1 by omega),if_neg (show x≠h.nx by omega)]
  exact hn
theorem wQ {h:Hs} {l:Nat} {o o':SO} (hb:Bd h) (hl:h.hp.get l=some o):Fac h (h.put l o'):=by
 have hlt:l<h.nx:=by
  by_cases hc:h.nx≤l
  ·rw[hb l hc] at hl;simp at hl
  ·omega
 have hg:∀x,(h.put l o').hp.get x=if x=l then some o' else h.hp.get x:=fun x=>Tr.bR _ _ _ _
 refine ⟨Nat.le_refl _,fun x hx=> ?_,fun x hx hn=> ?_,fun x hx=>List.mem_cons_of_mem _ hx,fun x hx hn=> ?_⟩
 ·have hx:h.nx≤x:=hx;rw[hg,if_neg (by omega)];exact hb x hx
 ·have hn:x∉l::h.lg:=hn;rw[hg,if_neg (fun e=>hn (by simp[e]))]
 ·rw[hg,if_neg (fun e=>by subst e;rw[hl] at hn;simp at hn)];exact hn
theorem Dg (h:Hs) (l:Nat) (o:SO):(h.put l o).hp.get=upF h.hp.get (l,some o):=funext fun x=>Tr.bR _ _ _ _
theorem HR.loop {h:Hf} {w:World} {l b c nt dd:Nat} {tm:Tr SV} {ps:List Nat} {aa bo:Code} {st:LoopState} {pe:Option Code} (hr:HR g h w) (hl:h l=some (.loop nt tm ps aa bo st pe dd)) (hρ:g.ρ l=some (b,c)) (st':LoopState) (pe':Option Code):
  ∃r:Loop,w.heap[b]? =some (.loop r)∧r.state=st∧r.pending=pe∧HR g (upF h (l,some (.loop nt tm ps aa bo st' pe' dd))) (w.putObj b (.loop {r with state:=st',pending:=pe'}))∧Fr g h w g (upF h (l,some (.loop nt tm ps aa bo st' pe' dd))) (w.putObj b (.loop {r with state:=st',pending:=pe'})):=by
 obtain ⟨hlt,hor⟩:=hr.at hl hρ;obtain ⟨k1,k2,r,h1,h2,h3,h4,h5,h6,h7,o',h8⟩:=hor;have hw:=HR.write hr (o':=.loop nt tm ps aa bo st' pe' dd) (w':=w.putObj b (.loop {r with state:=st',pending:=pe'})) hl hρ (by simp) (fun k hk=>World.putObj_heap_other hk)
  ⟨k1,k2,{r with state:=st',pending:=pe'},by simp[World.putObj,hlt],rfl,rfl,h4,h5,h6,h7,o',h8⟩ rfl rfl rfl
 exact ⟨r,h1,h2,h3,hw.1,hw.2⟩
end
section
variable {E:Env} {g:Gh} {f:Hf} {w:World}
theorem rp {x:SV} (h:tW E x=true):∃k fi ca fn,x= .fn (.func k) fi ca∧E.fn.get k=some fn∧fn.body.isSome=true:=by
 cases x with
 |fn f fi ca=>
  cases f with
  |func k=>
   have h: @Option.rec Func (fun _=>Bool) false (fun fn=>fn.body.isSome) (E.fn.get k)=true:=h
   cases hf:E.fn.get k with
   |none=>rw[hf] at h;cases h
   |some fn=>rw[hf] at h;exact ⟨k,fi,ca,fn,rfl,hf,h⟩
  |_=>cases h
 |_=>cases h
theorem gu {P:Program} {k:FuncId} {fn:Func} (hf:P.funcs[k]? =some fn) (hb:fn.body.isSome=true) (args:Array Value) (w:World):
  ((callFunc k args).run P w= .ok .numGoroutine w∧fn.name= "runtime.NumGoroutine")∨(callFunc k args).run P w= .ok (.enter k args) w:=by
 have h2:fn.body≠none:=by cases hfb:fn.body<;>simp_all
 by_cases h:fn.name= "runtime.NumGoroutine"
 ·left;exact ⟨by simp[callFunc,hf,h,Sem.run],h⟩
 ·right;simp[callFunc,hf,h,h2,Sem.run]
theorem pW {P:Program} (k:FuncId) (fi ca us:Array Value) (w:World):(Deferred.ofValue (.func (.func k) fi ca) us).run P w= .ok {target:=.fn (.func k) ca,args:=fi++us} w:=rfl
theorem Pv (hS:jM E) {nt:Nat} {fop:Operand} {ps:Array Nat} {aa bo as' bo':Code} {tm tm0:Tr SV} {mk:List Dm} {ps':List Nat} {h h2:Hs} {gv v:SV} {nt' dd:Nat} {st:LoopState} {hJ:Option Code} {e:Ex}
  (hgo:tW E gv=true) (hgv:aI tm.get fop=some gv) (hs:Bd (ic nt tm ps.toList aa bo h)→Fac (ic nt tm ps.toList aa bo h) h2∧jY E false gv [.yld (h.nx+1)] (ic nt tm ps.toList aa bo h).hp.get (h.nx+2) v h2.hp.get h2.nx)
  (hl:h2.hp.get (h.nx+1)=some (.loop nt' tm0 ps' as' bo' st hJ dd)) (hst:Dr st=true) (he:(hJ=none∧e= .normal)∨(hJ=some .ret∧e= .ret)∨(∃id,hJ=some (.exit id)∧e= .exit id))
  (hb:Bd h):cX E nt (.rangeFunc fop ps aa bo) tm mk h [⟨e,tm,.mark h.nx::mk,h2.put (h.nx+1) (.loop nt' tm0 ps' as' bo' .exhausted hJ dd)⟩]:=by
 have f0:=Q7 (nt:=nt) (tm:=tm) (ps:=ps.toList) (aa:=aa) (bo:=bo) hb;obtain ⟨f1,sem⟩:=hs f0.bd;have f3:=wQ (o':=SO.loop nt' tm0 ps' as' bo' .exhausted hJ dd) f1.bd hl;refine ⟨by simp,fun o ho=> ?_,fun ro m g a w Q hok hro hE hfr hr hm hnx hk=> ?_⟩
 ·obtain rfl:=List.mem_singleton.1 ho;refine ⟨(f0.trans f1).trans f3,by simp,fun x hx=> ?_⟩
  rcases List.mem_cons.1 hx with hx|hx
  ·cases hx;exact .inr (Nat.le_refl _)
  ·exact .inl hx
 have hok:(codeOk aa&&codeOk bo)=true:=hok;rw[Bool.and_eq_true] at hok;obtain ⟨ha,hbo⟩:=hok;have hro:ro=none:=by
  rcases hro with hh|hh
  ·exact hh
  ·have:=hh ⟨e,tm,.mark h.nx::mk,h2.put (h.nx+1) (.loop nt' tm0 ps' as' bo' .exhausted hJ dd)⟩ (by simp)
   simp at this
 subst hro;show (Code.rangeFunc fop ps aa bo).wpIn (fro none) m E.P Q a w;refine wpIn_rangeFunc (fun fn _=> ?_)
 obtain ⟨r1,F1⟩:=HR.alloc (l:=0) (e:=0) hr (hnx h.nx (Nat.le_refl _)) (o':=.dfr) (w':=w.alloc (.deferred (some []))) rfl (World.alloc_heap_new _ _);have hn1:(g.bind h.nx (w.heap.size,0) 0 0).ρ (h.nx+1)=none:=by rw[Gh.dS _ _ _ _ (by omega)];exact hnx _ (by omega)
 have hs1:(w.alloc (.deferred (some []))).heap.size=w.heap.size+1:=by simp
 have Zj:=Gh.sN (p:=((w.alloc (.deferred (some []))).heap.size,0)) (l:=0) (e:=0) hn1;obtain ⟨r2,F2⟩:=HR.alloc (l:=0) (e:=0) r1 hn1 (o':=.loop nt tm ps.toList aa bo .ready none h.nx) (w':=(w.alloc (.deferred (some []))).alloc (.loop {state:=.ready,pending:=none,fn:=fn,tmps:=a.tmps,params:=ps,assign:=aa,body:=bo,defers:=w.heap.size})) rfl
  ⟨ha,hbo,_,World.alloc_heap_new _ _,rfl,rfl,rfl,rfl,rfl,hfr.mono (F1.le.trans Zj),0,by
   rw[Gh.dS _ _ _ _ (by omega)];exact Gh.cV _ _ _ _ _⟩
 rw[←oW] at r2 F2;generalize hg2:(g.bind h.nx (w.heap.size,0) 0 0).bind (h.nx+1) ((w.alloc (.deferred (some []))).heap.size,0) 0 0=g2 at r2 F2 Zj;have hρl:g2.ρ (h.nx+1)=some (w.heap.size+1,0):=by rw[←hg2,Gh.cV,hs1]
 have hρd:g2.ρ h.nx=some (w.heap.size,0):=Zj.ρ _ _ (Gh.cV _ _ _ _ _);have hρo:∀x,x≠h.nx→x≠h.nx+1→g2.ρ x=g.ρ x:=fun x h1 h2=>by rw[←hg2,Gh.dS _ _ _ _ h2,Gh.dS _ _ _ _ h1]
 have hle:g.le g2:=F1.le.trans F2.le;obtain ⟨k,fi,ca,fn',rfl,hfn,fS⟩:=rp hgo;have hu:=(fD hfr hgv).mono hle;generalize hae:a.eval fop=u at hu;cases hu with
 | @fn _ first cf _ _ hv1 hv2=>
 obtain ⟨d,hd1,hd2⟩:=sem (m-1) g2 ((w.alloc (.deferred (some []))).alloc (.loop {state:=.ready,pending:=none,fn:=fn,tmps:=a.tmps,params:=ps,assign:=aa,body:=bo,defers:=w.heap.size})) _ [.func (.yield (w.heap.size+1)) #[] #[]] (hE.mono hle) r2 (fun x hx=>by rw[hρo x (by omega) (by omega)];exact hnx x (by omega)) (.fn hv1 hv2) (.cons (.yld hρl) .nil)
 have hd:d={target:=.fn (.func k) cf,args:=first++ #[.func (.yield (w.heap.size+1)) #[] #[]]}:=by
  rw[pW] at hd1;cases hd1;rfl
 subst hd;have tV:∃as',(invoke (.fn (.func k) cf) (first++ #[.func (.yield (w.heap.size+1)) #[] #[]])).run E.P ((w.alloc (.deferred (some []))).alloc (.loop {state:=.ready,pending:=none,fn:=fn,tmps:=a.tmps,params:=ps,assign:=aa,body:=bo,defers:=w.heap.size}))= .ok (.enter k as') ((w.alloc (.deferred (some []))).alloc (.loop {state:=.ready,pending:=none,fn:=fn,tmps:=a.tmps,params:=ps,assign:=aa,body:=bo,defers:=w.heap.size}))∧
   CallsIn Fence.wide (m-1) E.P k as' ((w.alloc (.deferred (some []))).alloc (.loop {state:=.ready,pending:=none,fn:=fn,tmps:=a.tmps,params:=ps,assign:=aa,body:=bo,defers:=w.heap.size})) fun e w'=>∃r,e=Bh false r∧∃g',VR g' r v∧HR g' h2.hp.get w'∧Fr g2 (ic nt tm ps.toList aa bo h).hp.get ((w.alloc (.deferred (some []))).alloc (.loop {state:=.ready,pending:=none,fn:=fn,tmps:=a.tmps,params:=ps,assign:=aa,body:=bo,defers:=w.heap.size})) g' h2.hp.get w'∧(∀x,x<h.nx+2→g'.ρ x=g2.ρ x)∧∀x,h2.nx≤x→g'.ρ x=none:=by
  have ez:∀(args:Array Value) (w:World),(invoke (.fn (.func k) cf) args).run E.P w=(callFunc k (args++cf)).run E.P w:=fun _ _=>rfl
  rcases gu (hS.fn k fn' hfn).1 fS (first++ #[.func (.yield (w.heap.size+1)) #[] #[]]++cf) ((w.alloc (.deferred (some []))).alloc (.loop {state:=.ready,pending:=none,fn:=fn,tmps:=a.tmps,params:=ps,assign:=aa,body:=bo,defers:=w.heap.size})) with ⟨hc,_⟩|hc
  ·rcases hd2 with ⟨k',as',q1,q2⟩|⟨l,k',t',as',b',q1,_⟩|⟨r,w',q1,_⟩<;>(rw[ez,hc] at q1;cases q1)
  ·rcases hd2 with ⟨k',as',q1,q2⟩|⟨l,k',t',as',b',q1,_⟩|⟨r,w',q1,_⟩
   ·have q0:=q1;rw[ez,hc] at q1;cases q1;exact ⟨_,q0,q2⟩
   ·rw[ez,hc] at q1;cases q1
   ·rw[ez,hc] at q1;cases q1
 obtain ⟨as2,hinv,tV⟩:=tV;refine ⟨w.heap.size+1,[{target:=.collected w.heap.size,args:= #[]}],_,{target:=.fn (.func k) cf,args:=first++ #[.func (.yield (w.heap.size+1)) #[] #[]]},_,k,as2,_,run_enterLoop_outer _ _ _ _ _,?_,fun _ _=>trivial,hinv,fun h=>by simp[fro] at h,?_⟩
 ·have Ke:(#[Operand.const (.func (.yield (w.heap.size+1)) #[] #[])]:Array Operand).map a.eval= #[.func (.yield (w.heap.size+1)) #[] #[]]:=by
   apply Array.ext';rw[Array.toList_map];rfl
  simp only[resolve,rangeCall];rw[Ke,hae];rfl
 refine CallsIn.mono (F:=fro none) (show CallsIn (fro none) (m-1) E.P k as2 _ _ from tV) ?_;rintro e' w3 ⟨r,rfl,g3,hv3,hr3,hf3,hρ3,hn3⟩;obtain ⟨rec,q1,q2,q3,q4,q5⟩:=HR.loop hr3 hl (hf3.le.ρ _ _ hρl) .exhausted hJ;subst q3;refine ⟨rec.pending,_,run_endLoop q1 (by rw[q2];exact PJ hst),?_⟩
 rw[←Dg] at q4 q5;have fin:=fun x hx=>hk ⟨e,tm,.mark h.nx::mk,h2.put (h.nx+1) (.loop nt' tm0 ps' as' bo' .exhausted rec.pending dd)⟩ (by simp) g3 {a with defers:= [{target:=.collected w.heap.size,args:= #[]}]++a.defers} _ x hx (hfr.mono (hle.trans hf3.le)) q4 (((F1.trans F2).trans hf3).trans q5) (.mark (hf3.le.ρ _ _ hρd) (hm.mono (hle.trans hf3.le))) hn3 (fun x hx=>by rw[hρ3 x (by omega),hρo x (by omega) (by omega)])
 rcases he with ⟨hp,rfl⟩|⟨hp,rfl⟩|⟨id,hp,rfl⟩
 ·have fin:=fin _ .normal;rw[hp] at fin ⊢;exact fin
 ·have fin:=fin _ .ret;rw[hp] at fin ⊢;exact wpIn_ret fin
 ·have fin:=fin _ (.exit id);rw[hp] at fin ⊢;exact wpIn_exit fin
theorem Yw {r:Out} {k kp:SV→Hs→Out} {Q:Out→Prop} (hf:∀s,Q (.fail s)) (ht:∀a b c,Q (.gM a b c)) (hr:∀v h2,r= .res v h2→Q (k v h2)) (hp:∀v h2,r= .pan v h2→Q (kp v h2)):Q (Dl r k kp):=by
 cases r with
 |bN l=>
  cases l with
  |nil=>exact hf _
  |cons r l=>
   cases l with
   |nil=>
    obtain ⟨pan,v,h2⟩:=r;cases pan with
    |false=>exact hr v h2 rfl
    |true=>exact hp v h2 rfl
   |cons _ _=>exact hf _
 |fail s=>exact hf _
 |gM a b c=>exact ht _ _ _
 |_=>exact hf _
theorem MF (hS:jM E) {rec:Job→Out} (cn:∀j,Sound E j (rec j)) (nt:Nat) (fop:Operand) (ps:Array Nat) (aa bo:Code) (tm:Tr SV) (mk:List Dm) (h:Hs):
  Sound E (.code nt (.rangeFunc fop ps aa bo) tm mk h) (Ja E rec nt (aI tm.get fop) ps.toList aa bo tm mk h):=by
 unfold Ja;cases hg:aI tm.get fop with
 |none=>trivial
 |some gv=>
  show Sound E _ (sel (tW E gv) (Dl (rec (.call gv [.yld (h.nx+1)] (ic nt tm ps.toList aa bo h))) (fun _ h2=>zp (h.nx+1) h.nx tm mk h2) fun _ _=>.fail "panic in a range") (.fail "rangeFunc"))
  rw[aC];split;rotate_left
  ·trivial
  rename_i hgo;refine Yw (Q:=Sound E _) (fun _=>trivial) (fun _ _ _=>trivial) (fun v h2 hv=> ?_) (fun _ _ _=>trivial)
  have hs:=cn (.call gv [.yld (h.nx+1)] (ic nt tm ps.toList aa bo h));rw[hv] at hs;have hs:Bd (ic nt tm ps.toList aa bo h)→ [(⟨false,v,h2⟩:Rs)]≠ []∧(∀r∈ [(⟨false,v,h2⟩:Rs)],Fac (ic nt tm ps.toList aa bo h) r.h)∧kz E gv [.yld (h.nx+1)] (ic nt tm ps.toList aa bo h).hp.get (h.nx+2) [⟨false,v,h2⟩]:=hs;have hs:Bd (ic nt tm ps.toList aa bo h)→Fac (ic nt tm ps.toList aa bo h) h2∧jY E false gv [.yld (h.nx+1)] (ic nt tm ps.toList aa bo h).hp.get (h.nx+2) v h2.hp.get h2.nx:=fun hb=>⟨(hs hb).2.1 ⟨false,v,h2⟩ (by simp),(hs hb).2.2.one⟩
  unfold zp;split;rotate_left
  ·trivial
  rename_i nt' tm0 ps' as' bo' st hJ dd hl;rw[aC];split;rotate_left
  ·trivial
  rename_i hst;have key:∀e,((hJ=none∧e= .normal)∨(hJ=some .ret∧e= .ret)∨(∃id,hJ=some (.exit id)∧e= .exit id))→Sound E (.code nt (.rangeFunc fop ps aa bo) tm mk h) (.code e tm (.mark h.nx::mk) (h2.put (h.nx+1) (.loop nt' tm0 ps' as' bo' .exhausted hJ dd))):=by
   intro e he hb;exact Pv hS hgo hg hs hl hst he hb
  exact WW (Q:=Sound E _) (fun _=>trivial) (fun hp=>key _ (.inl ⟨hp,rfl⟩)) (fun hp=>key _ (.inr (.inl ⟨hp,rfl⟩))) (fun id hp=>key _ (.inr (.inr ⟨id,hp,rfl⟩)))
theorem oD {e:Ex} {tm:Tr SV} {mk:List Dm} {h:Hs} {k:Tr SV→List Dm→Hs→Out} {r:List Oc} (hs:seqE e tm mk h k= .aQ r):(e= .normal∧k tm mk h= .aQ r)∨(e≠ .normal∧r= [⟨e,tm,mk,h⟩]):=by
 cases e with
 |normal=>exact .inl ⟨rfl,hs⟩
 |exit id=>cases hs;exact .inr ⟨fun e=>(by cases e),rfl⟩
 |ret=>cases hs;exact .inr ⟨fun e=>(by cases e),rfl⟩
 |pan v=>cases hs;exact .inr ⟨fun e=>(by cases e),rfl⟩
theorem zS (hS:jM E) {rec:Job→Out} (cn:∀j,Sound E j (rec j)) (nt:Nat) (c:Code) (tm:Tr SV) (mk:List Dm) (h:Hs):Sound E (.code nt c tm mk h) (acS c E rec nt tm mk h):=by
 cases c with
 |skip=>exact fun hb=>cX.calm .normal (fun _=>.normal) hb fun ro m Q a w hq=>wpIn_skip hq
 |ret=>exact fun hb=>cX.calm .ret (fun _=>.ret) hb fun ro m Q a w hq=>wpIn_ret hq
 |exit id=>exact fun hb=>cX.calm (.exit id) (fun _=>.exit id) hb fun ro m Q a w hq=>wpIn_exit hq
 |region id ops draw=>
  cases draw with
  |false=>
   show Sound E _ (rec (.ops nt ops.toList ops.toList tm mk h));have hs:=cn (.ops nt ops.toList ops.toList tm mk h);cases hr:rec (.ops nt ops.toList ops.toList tm mk h) with
   |aQ r=>
    rw[hr] at hs;intro hb;exact cX.ops (hs ops rfl (by simp) hb)
   |_=>trivial
  |true=>
   show Sound E _ (stK (rec (.draw nt ops.size ops.toList h.nx 0 0 [] ops.toList tm ⟨h.hp,Nat.add h.nx ops.size,h.lg⟩)) (fun e tm' _ h'=>.code e tm' mk h') fun tm' h'=>.code .normal tm' mk h')
   have hs:=cn (.draw nt ops.size ops.toList h.nx 0 0 [] ops.toList tm ⟨h.hp,Nat.add h.nx ops.size,h.lg⟩);cases hr:rec (.draw nt ops.size ops.toList h.nx 0 0 [] ops.toList tm ⟨h.hp,Nat.add h.nx ops.size,h.lg⟩) with
   |st tm1 h1=>
    rw[hr] at hs;intro hb;obtain ⟨f1,out,hd⟩:=hs ops rfl rfl (by simp) (Nat.le_refl _) (fun x hx=>hb x (Nat.le_trans (Nat.le_add_right _ _) hx)) (fun x hx hc=>hx (hb x (by omega))) (ss.zero _ _) (fun p hp=>by simp at hp) [] rfl
    exact cX.draw f1 hd
   |aQ r=>
    rw[hr] at hs;have hs:Sound E (.draw nt ops.size ops.toList h.nx 0 0 [] ops.toList tm ⟨h.hp,Nat.add h.nx ops.size,h.lg⟩) (.aQ r):=hs;cases aZ:stK (.aQ r) (fun e tm' _ h'=>.code e tm' mk h') fun tm' h'=>.code .normal tm' mk h' with
    |aQ r2=>
     intro hb;obtain ⟨v,tm',dm,h',rfl,f1,l0,o,out,F1,nx1,e1,d1,d2⟩:=hs ops rfl rfl (by simp) (Nat.le_refl _) (fun x hx=>hb x (Nat.le_trans (Nat.le_add_right _ _) hx)) (fun x hx hc=>hx (hb x (by omega))) (ss.zero _ _) (fun p hp=>by simp at hp) [] rfl
     cases (show Out.aQ [⟨.pan v,tm',mk,h'⟩]= .aQ r2 from aZ);exact cX.aen f1 e1 d1 d2
    |_=>trivial
   |_=>trivial
 |seq a b=>
  show Sound E _ (rU (rec (.code nt a tm mk h)) fun tm' mk' h'=>rec (.code nt b tm' mk' h'))
  cases aZ:rU (rec (.code nt a tm mk h)) fun tm' mk' h'=>rec (.code nt b tm' mk' h') with
  |aQ r=>
   obtain ⟨l1,h1,h2⟩:=pT aZ;obtain ⟨_,q1,q2⟩:=kL h2;have hs:=cn (.code nt a tm mk h);rw[h1] at hs;intro hb;have k1:=hs hb;have sub:∀(o:Oc) r',o∈l1→rec (.code nt b o.tm o.dm o.h)= .aQ r'→cX E nt b o.tm o.dm o.h r':=fun o r' ho hr'=>by
    have:=cn (.code nt b o.tm o.dm o.h);rw[hr'] at this;exact this (k1.2.1 o ho).1.bd
   refine k1.seq (fun o ho=> ?_) (fun x hx=> ?_)
   ·obtain ⟨r',e1,e2⟩:=q1 o ho;rcases oD e1 with ⟨he,hr'⟩|⟨he,rfl⟩
    ·exact .inl ⟨he,r',sub o r' ho hr',e2⟩
    ·exact .inr ⟨he,e2 _ (by simp)⟩
   ·obtain ⟨o,ho,r',e1,e2⟩:=q2 x hx;rcases oD e1 with ⟨he,hr'⟩|⟨he,rfl⟩
    ·exact ⟨o,ho,.inl ⟨r',sub o r' ho hr',e2⟩⟩
    ·exact ⟨o,ho,.inr (List.mem_singleton.1 e2)⟩
  |_=>trivial
 |cond c a b=>
  show Sound E _ (Bt (aI tm.get c) (rec (.code nt a tm mk h)) (rec (.code nt b tm mk h)));unfold Bt;cases hv:ai (aI tm.get c) il with
  |none=>trivial
  |some t=>
   obtain ⟨x,h1,h2⟩:=af hv;obtain rfl:=k9 h2;have hev:∀(g:Gh) (ac:Act),FR g nt tm.get ac.tmps→ac.eval c= .bool t:=fun g ac hfr=>by
    have:=fD hfr h1;generalize ac.eval c=u at this;cases this;rfl
   show Sound E _ (sel t (rec (.code nt a tm mk h)) (rec (.code nt b tm mk h)));cases t with
   |true=>
    show Sound E _ (rec (.code nt a tm mk h));have hs:=cn (.code nt a tm mk h);cases hr:rec (.code nt a tm mk h) with
    |aQ r=>
     rw[hr] at hs;intro hb;obtain ⟨n1,f1,s1⟩:=hs hb;exact ⟨n1,f1,fun ro m g ac w Q hok hro hE hfr hrr hm hnx hk=>wpIn_cond_true (hev g ac hfr) (kU (s1 ro m g ac w Q (okL hok) hro hE hfr hrr hm hnx hk))⟩
    |_=>trivial
   |false=>
    show Sound E _ (rec (.code nt b tm mk h));have hs:=cn (.code nt b tm mk h);cases hr:rec (.code nt b tm mk h) with
    |aQ r=>
     rw[hr] at hs;intro hb;obtain ⟨n1,f1,s1⟩:=hs hb;exact ⟨n1,f1,fun ro m g ac w Q hok hro hE hfr hrr hm hnx hk=>wpIn_cond_false (hev g ac hfr) (kU (s1 ro m g ac w Q (okR hok) hro hE hfr hrr hm hnx hk))⟩
    |_=>trivial
 |block id c=>
  show Sound E _ (BA id (rec (.code nt c tm mk h)));cases aZ:BA id (rec (.code nt c tm mk h)) with
  |aQ r=>
   obtain ⟨l1,h1,h2⟩:=pT aZ;obtain ⟨_,q1,q2⟩:=kL h2;have hs:=cn (.code nt c tm mk h);rw[h1] at hs;intro hb;refine (hs hb).block (fun x=>⟨fun hx=> ?_,fun ⟨o,ho,hx⟩=> ?_⟩)
   ·obtain ⟨o,ho,r',e1,e2⟩:=q2 x hx;cases e1;exact ⟨o,ho,List.mem_singleton.1 e2⟩
   ·obtain ⟨r',e1,e2⟩:=q1 o ho;cases e1;subst hx;exact e2 _ (by simp)
  |_=>trivial
 |loop c=>
  show Sound E _ (rU (rec (.code nt c tm mk h)) fun tm' mk' h'=>rec (.code nt (.loop c) tm' mk' h'))
  cases aZ:rU (rec (.code nt c tm mk h)) fun tm' mk' h'=>rec (.code nt (.loop c) tm' mk' h') with
  |aQ r=>
   obtain ⟨l1,h1,h2⟩:=pT aZ;obtain ⟨_,q1,q2⟩:=kL h2;have hs:=cn (.code nt c tm mk h);rw[h1] at hs;intro hb;have k1:=hs hb;have sub:∀(o:Oc) r',o∈l1→rec (.code nt (.loop c) o.tm o.dm o.h)= .aQ r'→cX E nt (.loop c) o.tm o.dm o.h r':=fun o r' ho hr'=>by
    have:=cn (.code nt (.loop c) o.tm o.dm o.h);rw[hr'] at this;exact this (k1.2.1 o ho).1.bd
   refine k1.loop (fun o ho=> ?_) (fun x hx=> ?_)
   ·obtain ⟨r',e1,e2⟩:=q1 o ho;rcases oD e1 with ⟨he,hr'⟩|⟨he,rfl⟩
    ·exact .inl ⟨he,r',sub o r' ho hr',e2⟩
    ·exact .inr ⟨he,e2 _ (by simp)⟩
   ·obtain ⟨o,ho,r',e1,e2⟩:=q2 x hx;rcases oD e1 with ⟨he,hr'⟩|⟨he,rfl⟩
    ·exact ⟨o,ho,.inl ⟨r',sub o r' ho hr',e2⟩⟩
    ·exact ⟨o,ho,.inr (List.mem_singleton.1 e2)⟩
  |_=>trivial
 |rangeFunc fop ps aa bo=>exact MF hS cn nt fop ps aa bo tm mk h
 |_=>trivial
end
section
variable {E:Env} {g:Gh} {f:Hf} {w:World}
theorem HR.grow (h:HR g f w) {w':World} (hsz:w.heap.size≤w'.heap.size) (hs:∀b,b<w.heap.size→w'.heap[b]? =w.heap[b]?):HR g f w':=
 ⟨fun id o ho=>let ⟨b,c,q1,q2,q3⟩:=h.ob id o ho;⟨b,c,q1,Nat.lt_of_lt_of_le q2 hsz,q3.mono (.refl _) q1 (hs b q2)⟩,h.inj⟩
theorem HR.drop (h:HR g f w) {d r c:Nat} {o:SO} {w':World} (hd:f d=some o) (hρ:g.ρ d=some (r,c)) (hsz:w'.heap.size=w.heap.size) (vG:∀k,k≠r→w'.heap[k]? =w.heap[k]?) (h1:w'.os=w.os) (h2:w'.tape=w.tape) (h3:w'.output=w.output):
  HR g (upF f (d,none)) w'∧Fr g f w g (upF f (d,none)) w':=by
 have key:∀k z,upF f (d,none) k=some z→k≠d∧f k=some z:=by
  intro k z hz;simp only[upF] at hz;split at hz
  ·simp at hz
  ·rename_i hk;exact ⟨hk,hz⟩
 refine ⟨⟨fun id x hx=> ?_,fun i j x y b c d hx hy e1 e2=>h.inj i j x y b c d (key i x hx).2 (key j y hy).2 e1 e2⟩,⟨h1,h2,h3,by omega,.refl _,fun b hb hn=>vG b (fun e=>hn (by subst e;exact ⟨d,o,c,hd,hρ⟩)),fun b hb ⟨j,x,c',hx,hj⟩=>⟨j,x,c',(key j x hx).2,hj⟩⟩⟩
 obtain ⟨hne,hx⟩:=key id x hx;obtain ⟨b,c',q1,q2,q3⟩:=h.ob id x hx;refine ⟨b,c',q1,by omega,q3.mono (.refl _) q1 (vG b (fun e=> ?_))⟩
 subst e;exact hne (h.inj id d x o b c' c hx hd q1 hρ)
def I5 (a:Act):ResultVar→Go.Sem Value
 | .tmp t=>pure (a.tmps.getD t undef)
 | .cell k t=>do loadVar t (←asAddr (a.tmps.getD k undef))
theorem ME (hE:bu E g) (h:HR g f w) {nt:Nat} {T:Tf} {a:Act} (hfr:FR g nt T a.tmps) {rv:ResultVar} {x:SV} (hx:Af E T f rv=some x):∃v,(I5 a rv).run E.P w= .ok v w∧VR g v x:=by
 cases rv with
 |tmp t=>exact ⟨_,rfl,hfr.tm t x hx⟩
 |cell k t=>
  obtain ⟨y,hy,hl⟩:=af (show ai (T k) (iJ E f t)=some x from hx);have hu:=hfr.tm k y hy;obtain ⟨v,hv,hvr⟩:=AD hE h hu hl;obtain ⟨q,h1,_⟩:=af hl;obtain rfl:=gO h1;refine ⟨v,?_,hvr⟩;generalize hz:a.tmps.getD k undef=z at hu hv;cases hu with
  |ptr hρ=>
   simp only[Instr.loadAt,Instr.sureAddr,Sem.run_bind,Sem.run_pure,Result.andThen_ok] at hv;simp only[I5,hz,asAddr,Sem.run_bind,Sem.run_pure,Result.andThen_ok];exact hv
theorem vk (hE:bu E g) (h:HR g f w) {nt:Nat} {T:Tf} {a:Act} (hfr:FR g nt T a.tmps):∀{rvs:List ResultVar} {xs:List SV},gx E T f rvs=some xs→∃vs,(rvs.mapM (I5 a)).run E.P w= .ok vs w∧VRs g vs xs
 | [],xs,hx=>by cases hx;exact ⟨[],by simp,.nil⟩
 |rv::rvs,xs,hx=>by
  obtain ⟨x,l,h1,h2,hx⟩:=ay (show aF (Af E T f rv) (gx E T f rvs) (fun v l=>some (v::l))=some xs from hx)
  cases hx;obtain ⟨v,hv1,hv2⟩:=ME hE h hfr h1;obtain ⟨vs,hs1,hs2⟩:=vk hE h hfr h2;refine ⟨v::vs,?_,.cons hv2 hs2⟩;rw[List.mapM_cons];simp only[Sem.run_bind];rw[hv1];simp only[Result.andThen_ok];rw[hs1];simp
theorem vj (hE:bu E g) (h:HR g f w) {fn:Func} {nt:Nat} {T:Tf} {a:Act} (hfr:FR g nt T a.tmps) {xs:List SV} (hx:gx E T f fn.results.toList=some xs):∃v,(results fn a.tmps).run E.P w= .ok v w∧VR g v (oneOf xs):=by
 obtain ⟨vs,h1,h2⟩:=vk hE h hfr hx;refine ⟨if h:vs.toArray.size=1 then vs.toArray[0] else .tuple vs.toArray,?_,?_⟩
 ·have e:∀f:ResultVar→Go.Sem Value,(∀x,f x=I5 a x)→fn.results.mapM f=fn.results.mapM (I5 a):=fun f hf=>by rw[funext hf]
  unfold results;rw[e _ (fun x=>by cases x<;>rfl)]
  rw[←Array.toArray_toList (xs:=fn.results),List.mapM_toArray];simp only[Sem.run_bind,Sem.run_map];rw[h1];simp
 ·cases h2 with
  |nil=>exact .tup (by simpa using .nil)
  | @cons v x vs' xs' hv ht=>
   cases ht with
   |nil=>simpa[oneOf] using hv
   | @cons v2 x2 vs2 xs2 hv2 ht2=>
    have:¬(v::v2::vs2).toArray.size=1:=by simp
    rw[dif_neg this];exact .tup (by simpa using .cons hv (.cons hv2 ht2))
theorem rT:∀(vs:List SV) (i:Nat) (t:Tr SV) (j:Nat),(setArgs vs i t).get j=if i≤j∧j<i+vs.length then vs[j-i]? else t.get j
 | [],i,t,j=>by
  have:¬(i≤j∧j<i+([]:List SV).length):=by simp
  rw[if_neg this];rfl
 |v::vs,i,t,j=>by
  have e:setArgs (v::vs) i t=setArgs vs (i+1) (t.set i (some v)):=rfl;rw[e,rT vs (i+1) _ j,Tr.bR];by_cases h1:j=i
  ·subst h1;rw[if_neg (by omega),if_pos rfl,if_pos (by simp)]
   simp
  ·by_cases h2:i+1≤j∧j<i+1+vs.length
   ·rw[if_pos h2,if_pos (by simp;omega)]
    have:j-i=(j-(i+1))+1:=by omega
    rw[this,List.getElem?_cons_succ]
   ·rw[if_neg h2,if_neg h1,if_neg (by simp;omega)]
theorem FR.args {us:List Value} {aa:List SV} (h:VRs g us aa) {nt:Nat} (hn:aa.length≤nt):FR g nt (setArgs aa 0 .nil).get (us.toArray++Array.replicate (nt-us.toArray.size) undef):=by
 have hl:=h.length;refine ⟨by simp;omega,fun t x hx=> ?_⟩
 rw[rT] at hx;split at hx
 ·rename_i hc;obtain ⟨v,h1,h2⟩:=h.get hx;have hlt:t<us.length:=by omega
  have e:(us.toArray++Array.replicate (nt-us.toArray.size) undef).getD t undef=v:=by
   rw[Array.getD_eq_getD_getElem?,Array.getElem?_append_left (by simpa using hlt)]
   simp only[Nat.sub_zero] at h1;simp[h1]
  rw[e];exact h2
 ·cases hx
theorem sC {nt:Nat}:∀{ps:List Nat} {aa:List SV} {tm tm1:Tr SV} {tmps:Array Value} {us:List Value},nL nt tm ps aa=some tm1→VRs g us aa→FR g nt tm.get tmps→us.length=ps.length∧FR g nt tm1.get ((ps.zip us).foldl (fun tmps p=>tmps.setIfInBounds p.1 p.2) tmps)
 | [],[],tm,tm1,tmps,us,h,hu,hfr=>by
  cases h;cases hu;exact ⟨rfl,hfr⟩
 |p::ps,v::aa,tm,tm1,tmps,us,h,hu,hfr=>by
  cases hu with
  | @cons u _ us' _ hv ht=>
   obtain ⟨hp,h⟩:=av (show sel (Nat.ble (Nat.succ p) nt) (nL nt (tm.set p (some v)) ps aa) none=some tm1 from h);have hp:p<tmps.size:=by rw[hfr.sz];exact (aX _ _).1 hp
   obtain ⟨q1,q2⟩:=sC (tmps:=tmps.setIfInBounds p u) h ht ⟨by simp[hfr.sz],fun t x hx=>by
    rw[Tr.bR] at hx;split at hx
    ·rename_i e;subst e;cases hx;have:(tmps.setIfInBounds t u).getD t undef=u:=by
      rw[Array.getD_eq_getD_getElem?,Array.getElem?_setIfInBounds_self_of_lt hp];rfl
     rw[this];exact hv
    ·rename_i e;have:(tmps.setIfInBounds p u).getD t undef=tmps.getD t undef:=by
      rw[Array.getD_eq_getD_getElem?,Array.getElem?_setIfInBounds_ne (fun e'=>e e'.symm),←Array.getD_eq_getD_getElem?]
     rw[this];exact hfr.tm t x hx⟩
   exact ⟨by simp[q1],q2⟩
 | [],_::_,tm,tm1,tmps,us,h,_,_=>by cases h
 |_::_,[],tm,tm1,tmps,us,h,_,_=>by cases h
theorem Qn {s:LoopState} (h:isReady s=true):s= .ready:=by cases s<;>first|rfl|cases h
theorem yq {e:Ex} (h:eu e=true):e= .normal:=by cases e<;>first|rfl|cases h
theorem Pq {nt nt1 nt3 l dd dd1 dd3:Nat} {tm0 tm1 tm2 tm3 Hy yF:Tr SV} {ps ps1 ps3:List Nat} {aa bo as1 bo1 as3 bo3:Code} {hJ wU abB:Option Code} {st st3:LoopState} {h h1 h3:Hs} {args:List SV} {e3:Ex} (hb:Bd h)
  (hl:h.hp.get l=some (.loop nt tm0 ps aa bo st hJ dd)) (hp:nL nt tm0 ps args=some tm1) (k1:cX E nt aa tm1 [] h [⟨.normal,tm2,[],h1⟩]) (hl1:h1.hp.get l=some (.loop nt1 Hy ps1 as1 bo1 .ready wU dd1))
  (k2:cX E nt bo tm2 [] (h1.put l (.loop nt1 Hy ps1 as1 bo1 .busy wU dd1)) [⟨e3,tm3,[],h3⟩]) (hnp:abF e3=true) (hl3:h3.hp.get l=some (.loop nt3 yF ps3 as3 bo3 st3 abB dd3)):
  Fac h (h3.put l (.loop nt3 yF ps3 as3 bo3 (sel (exJ e3).isNone .ready .done) (exJ e3) dd3))∧jY E false (.yld l) args h.hp.get h.nx (.bool (exJ e3).isNone) (h3.put l (.loop nt3 yF ps3 as3 bo3 (sel (exJ e3).isNone .ready .done) (exJ e3) dd3)).hp.get h3.nx:=by
 obtain ⟨_,f1,s1⟩:=k1;have f1:Fac h h1:=(f1 _ (List.mem_singleton.2 rfl)).1;have fp:=wQ (o':=SO.loop nt1 Hy ps1 as1 bo1 .busy wU dd1) f1.bd hl1;obtain ⟨_,f2,s2⟩:=k2;have f2:Fac _ h3:=(f2 _ (List.mem_singleton.2 rfl)).1;have f3:=wQ (o':=SO.loop nt3 yF ps3 as3 bo3 (sel (exJ e3).isNone .ready .done) (exJ e3) dd3) f2.bd hl3;refine ⟨((f1.trans fp).trans f2).trans f3,fun m g w u us hE hr hnx hu hus=> ?_⟩
 cases hu with
 | @yld _ b o hρ=>
 obtain ⟨hlt,hor⟩:=hr.at hl hρ;obtain ⟨c1,c2,r,q1,q2,q3,q4,q5,q6,q7,o',q8⟩:=hor;obtain ⟨hlen,hfr⟩:=sC hp hus q7;subst q4;subst q5;subst q6;have hsz:us.toArray.size=r.params.size:=by simpa using hlen
 have htm:((r.params.zip us.toArray).foldl (fun tmps (t,a)=>tmps.setIfInBounds t a) r.tmps)=(r.params.toList.zip us).foldl (fun tmps p=>tmps.setIfInBounds p.1 p.2) r.tmps:=by
  rw[←Array.foldl_toList,Array.toList_zip]
 refine ⟨{target:=.fn (.yield b) #[],args:= #[]++us.toArray},rfl,.inr (.inl ⟨b,r.fn,(r.params.zip us.toArray).foldl (fun tmps (t,a)=>tmps.setIfInBounds t a) r.tmps,r.assign,r.body,?_,?_⟩)⟩
 ·show (Instr.yield b (#[]++us.toArray)).run E.P w=_;rw[Array.empty_append];exact run_yield q1 hsz
 rw[htm];refine roundIn_of_wpIn (F:=Fence.wide) trivial (kU ?_);refine s1 (some b) m g {tmps:=_,defers:= []} w _ c1 (.inr fun o ho=>by obtain rfl:=List.mem_singleton.1 ho;rfl) hE hfr hr .nil hnx (fun o ho g1 a1 w1 x p0 p1 p2 p3 p4 p5 p6=> ?_)
 obtain rfl:=List.mem_singleton.1 ho;cases p0;obtain ⟨r1,t1,t2,t3,t4,t5⟩:=HR.loop p2 hl1 (p3.le.ρ _ _ hρ) .busy wU;subst t3;refine ⟨_,run_beginRound t1 t2,kU ?_⟩;rw[←Dg] at t4 t5;refine s2 (some b) m g1 a1 _ _ c2 (.inr fun o ho=>by obtain rfl:=List.mem_singleton.1 ho;rfl) (hE.mono p3.le) p1 t4 p4 p5 (fun o ho g2 a2 w2 x v0 v1 v2 v3 v4 v5 v6=> ?_)
 obtain rfl:=List.mem_singleton.1 ho;obtain ⟨r2,y1,y2,y3,y4,y5⟩:=HR.loop v2 hl3 (v3.le.ρ _ _ (p3.le.ρ _ _ hρ)) (sel (exJ e3).isNone .ready .done) (exJ e3);rw[←Dg] at y4 y5;have fin:∃v w',(Instr.endRound b (exJ e3)).run E.P w2= .ok v w'∧∃r',Ending.returned v=Bh false r'∧∃g',VR g' r' (.bool (exJ e3).isNone)∧HR g' (h3.put l (.loop nt3 yF ps3 as3 bo3 (sel (exJ e3).isNone .ready .done) (exJ e3) dd3)).hp.get w'∧
   Fr g h.hp.get w g' (h3.put l (.loop nt3 yF ps3 as3 bo3 (sel (exJ e3).isNone .ready .done) (exJ e3) dd3)).hp.get w'∧(∀x,x<h.nx→g'.ρ x=g.ρ x)∧∀x,h3.nx≤x→g'.ρ x=none:=by
  refine ⟨_,_,run_endRound _ y1,_,rfl,g2,.bool _,?_,?_,fun x hx=> ?_,v5⟩
  ·rw[aC] at y4 ⊢;exact y4
  ·rw[aC] at y5 ⊢;exact ((p3.trans t5).trans v3).trans y5
  ·rw[v6 x (Nat.lt_of_lt_of_le hx f1.nx),p6 x hx]
 cases v0 with
 |normal=>exact fin
 |ret=>exact fin
 |exit id=>exact fin
 |pan hv=>cases hnp
theorem jY.calls {pan:Bool} {fv:SV} {aa:List SV} {H:Hf} {nx:Nat} {v:SV} {h':Hs} (h:jY E pan fv aa H nx v h'.hp.get h'.nx):kz E fv aa H nx [⟨pan,v,h'⟩]:=
 fun m g w u us hE hr hnx hu hus=>(h m g w u us hE hr hnx hu hus).mono fun e w' ⟨r,q1,g',q2,q3,q4,q5,q6⟩=>⟨_,List.mem_singleton.2 rfl,r,g',q1,q2,q3,q4,q5,q6⟩
theorem KT {fv:SV} {aa:List SV} {h:Hs} {r:Rs} (h1:Bd h→Fac h r.h∧jY E r.pan fv aa h.hp.get h.nx r.v r.h.hp.get r.h.nx):Sound E (.call fv aa h) (.bN [r]):=by
 intro hb;obtain ⟨q1,q2⟩:=h1 hb;refine ⟨by simp,fun r' hr=> ?_,q2.calls⟩
 obtain rfl:=List.mem_singleton.1 hr;exact q1
theorem Ju {r:Out} {k:Ex→Tr SV→List Dm→Hs→Out} {Q:Out→Prop} (hf:∀s,Q (.fail s)) (ht:∀a b c,Q (.gM a b c)) (hr:∀e tm mk h,r= .code e tm mk h→Q (k e tm mk h)):Q (Yx r k):=by
 cases r with
 |aQ l=>
  cases l with
  |nil=>exact hf _
  |cons o l=>
   cases l with
   |nil=>exact hr o.e o.tm o.dm o.h rfl
   |cons _ _=>exact hf _
 |fail s=>exact hf _
 |gM a b c=>exact ht _ _ _
 |_=>exact hf _
theorem Mw {rec:Job→Out} (cn:∀j,Sound E j (rec j)) (l:Nat) (aa:List SV) (h:Hs):Sound E (.call (.yld l) aa h) (Ho rec l (h.hp.get l) aa h):=by
 unfold Ho;split;rotate_left
 ·trivial
 rename_i nt tm0 ps as' bo st hJ dd hl;rw[aC];split;rotate_left
 ·trivial
 unfold UI;split
 ·trivial
 rename_i tm1 hp;refine Ju (Q:=Sound E _) (fun _=>trivial) (fun _ _ _=>trivial) (fun e tm2 mk2 h1 he=> ?_)
 have hs1:=cn (.code nt as' tm1 [] h);rw[he] at hs1;rw[aC];split;rotate_left
 ·trivial
 rename_i hn;obtain rfl:=yq hn;unfold acW;split;rotate_left
 ·trivial
 rename_i nt1 Hy ps1 as1 bo1 st1 wU dd1 hl1;split;rotate_left
 ·trivial
 rw[aC];split;rotate_left
 ·trivial
 rename_i hrd;obtain rfl:=Qn hrd;unfold I3;refine Ju (Q:=Sound E _) (fun _=>trivial) (fun _ _ _=>trivial) (fun e3 tm3 mk3 h3 he3=> ?_)
 have hs2:=cn (.code nt bo tm2 [] (h1.put l (.loop nt1 Hy ps1 as1 bo1 .busy wU dd1)));rw[he3] at hs2;split;rotate_left
 ·trivial
 rw[aC];split;rotate_left
 ·trivial
 rename_i hnp;unfold finK;split;rotate_left
 ·trivial
 rename_i nt3 yF ps3 as3 bo3 st3 abB dd3 hl3;refine KT (fun hb=> ?_)
 have k1:=hs1 hb;exact Pq hb hl hp k1 hl1 (hs2 (wQ (k1.2.1 _ (List.mem_singleton.2 rfl)).1.bd hl1).bd) hnp hl3
def uv (g:Gh) (u:Option SV) (um:FrameMode):Prop:=
 match u with
 |none=>um= .returning
 |some v=>∃x,um= .panicking [{v:=x,recovered:=false}]∧VR g x v
theorem uv.mono {g g':Gh} (hle:g.le g') {u:Option SV} {um:FrameMode} (h:uv g u um):uv g' u um:=by
 cases u with
 |none=>exact h
 |some v=>obtain ⟨x,h1,h2⟩:=h;exact ⟨x,h1,h2.mono hle⟩
theorem uv.Ww {u:Option SV} {um:FrameMode} (h:uv g u um):um≠ .run:=by
 cases u with
 |none=>rw[show um= .returning from h];simp
 |some v=>obtain ⟨x,h1,_⟩:=h;rw[h1];simp
theorem DA {o:Oper} (h:nR o=true):∃c,o.op= .call c∧c.callee= .builtin .recover∧o.guard=none:=by
 unfold nR at h;split at h
 ·rename_i c hop hg;split at h
  ·rename_i hc;exact ⟨c,hop,hc,hg⟩
  ·cases h
 ·cases h
theorem tr {n:Nat} {P:Program} {id:Nat} {ops:Array Oper} {Q:Exit→Act→List Frame→World→Prop} {a:Act} {cs cs':List Frame} {w:World} {o:Oper} {v:Value} (ho:ops[0]? =some o) (hrc:nR o=true)
  (hv:recoverD cs=some (v,cs')∨(recoverD cs=none∧v= .nilIface∧cs'=cs)) (h:wpOpsIn (fro none) n P ops (fun e a' w'=>Q e a' cs' w') (List.range' 1 (ops.size-1)) (a.put o.dst v) w):(Code.region id ops false).wpSIn Fence.wide n P Q a cs w:=by
 intro b k hb hro hF nA;obtain ⟨c,hop,iU,hg⟩:=DA hrc;have hlen:cs'.length=cs.length:=by
  rcases hv with hv|⟨_,_,rfl⟩
  ·exact recoverD_length hv
  ·rfl
 have hsz:0<ops.size:=by
  by_cases h0:0<ops.size
  ·exact h0
  ·rw[Array.getElem?_eq_none (by omega)] at ho;cases ho
 have Kd:List.range ops.size=0::List.range' 1 (ops.size-1):=by
  rw[List.range_eq_range'];have:ops.size=(ops.size-1)+1:=by omega
  rw[this,List.range'_succ];rfl
 have ahO:Region.wanted o (yielded ops a.tmps)=true:=by simp[Region.wanted,hg]
 have h0:(lone (b.atR a (.inRegion ops (0::List.range' 1 (ops.size-1))::k)) cs w).fenced P Fence.wide:=fenced_oper hF nA ho (fun _ _=>trivial)
 have hgo:=stepGR_op (P:=P) (b:=b) (a:=a) (k:=k) (cs:=cs) (w:=w) (rest:=List.range' 1 (ops.size-1)) ho ahO;rw[hro,Oper.semAt_none] at hgo;have Kg:∀v,(b.atR a (.inRegion ops (0::List.range' 1 (ops.size-1))::k)).finish v=b.atR (a.put o.dst v) (.inRegion ops (List.range' 1 (ops.size-1))::k):=by
  intro v;rw[Frame.finish_atR,ho];rfl
 have hr:(execOp a.eval o).run P w= .ok .recover w:=by
  simp[execOp,hop,resolve,iU,invoke,builtin,Sem.run_bind,Sem.run,Result.andThen]
 have hk:(b.atR a (.inRegion ops (0::List.range' 1 (ops.size-1))::k)).kind= .deferred:=hb;have htr:=tryRecover_deferred hk cs;have tR:Go.step P (lone (b.atR a (.inRegion ops (0::List.range' 1 (ops.size-1))::k)) cs w)= .next (lone (b.atR (a.put o.dst v) (.inRegion ops (List.range' 1 (ops.size-1))::k)) cs' w):=by
  refine step_lone_go ?_;rw[hgo,←Kg];simp only[Frame.atR,hro] at htr ⊢;rcases hv with hv|⟨hv,rfl,rfl⟩
  ·simp[stepG.apply,hr,htr,hv]
  ·simp[stepG.apply,hr,htr,hv]
 obtain ⟨e,a',w',hq,jn⟩:=wp_opsIn (F:=fro none) _ _ _ h b k cs' hro hF (hlen ▸ nA);refine ⟨e,a',cs',w',hlen,hq,.of_steps (.head (fenced_calm (fr:=b.atR a (.code (.region id ops false)::k)) hF nA rfl) stepR_region ?_) jn⟩;rw[Kd];exact .one h0 tR
end
section
variable {E:Env} {g:Gh} {f:Hf} {w:World}
theorem Od {l:List Dm} (h:YF l=true):l= []:=by cases l<;>first|rfl|cases h
theorem Qm {e:Ex} {x:Exit} (h:qb e=true) (hx:ExR g e x):x= .normal∨x= .ret:=by
 cases hx with
 |normal=>exact .inl rfl
 |ret=>exact .inr rfl
 |exit id=>cases h
 |pan hv=>cases h
theorem I9 {u:Option SV} {c0:Frame} {cs:List Frame} (hu:uv g u c0.mode):∃v cs' u',(recoverD (c0::cs)=some (v,cs')∨(recoverD (c0::cs)=none∧v= .nilIface∧cs'=c0::cs))∧VR g v (Pt u)∧cs'={c0 with mode:=u'}::cs∧settle u'= .returning:=by
 cases u with
 |none=>
  have hu:c0.mode= .returning:=hu;refine ⟨.nilIface,c0::cs,.returning,.inr ⟨by simp[recoverD,hu],rfl,rfl⟩,.cg,?_,rfl⟩
  rw[←hu]
 |some v=>
  obtain ⟨x,h1,h2⟩:=hu;refine ⟨x,{c0 with mode:=.panicking [{v:=x,recovered:=true}]}::cs,.panicking [{v:=x,recovered:=true}],.inl ?_,h2,rfl,?_⟩
  ·simp[recoverD,h1]
  ·simp[settle]
theorem Rh (hS:jM E) {rec:Job→Out} (cn:∀j,Sound E j (rec j)) {k:FuncId} {aa:List SV} {u:Option SV} {h:Hs} {kk:Hs→Out} {l:List Rs} (aZ:Ri E rec (E.fn.get k) aa u h kk= .bN l) (hb:Bd h):
  ∃hs:List Hs,hs≠ []∧(∀h'∈hs,Fac h h'∧∃r',kk h'= .bN r'∧∀x∈r',x∈l)∧(∀x∈l,∃h'∈hs,∃r',kk h'= .bN r'∧x∈r')∧
   ∀(m:Nat) (g:Gh) (w:World) (um:FrameMode) (us:List Value) (R:Ending→FrameMode→World→Prop),bu E g→HR g h.hp.get w→(∀x,h.nx≤x→g.ρ x=none)→uv g u um→VRs g us aa→
    (∀h'∈hs,∀(g':Gh) (w':World) (v:Value) (u':FrameMode),settle u'= .returning→HR g' h'.hp.get w'→Fr g h.hp.get w g' h'.hp.get w'→(∀x,h'.nx≤x→g'.ρ x=none)→(∀x,x<h.nx→g'.ρ x=g.ρ x)→R (.returned v) u' w')→
    (∃args,(callFunc k us.toArray).run E.P w= .ok (.enter k args) w∧CallsDIn Fence.wide m E.P k args um w R):=by
 unfold Ri at aZ;cases hfn:E.fn.get k with
 |none=>rw[hfn] at aZ;cases aZ
 |some fn=>
  rw[hfn] at aZ;have aZ:Rj E rec fn aa u h kk fn.body= .bN l:=aZ;unfold Rj at aZ;split at aZ;rotate_left
  ·cases aZ
  rename_i id ops rest fS;rw[aC] at aZ;split at aZ;rotate_left
  ·cases aZ
  rename_i hlen;have hlen:=(aX _ _).1 hlen;rw[aC] at aZ;split at aZ
  ·cases aZ
  rename_i zf;unfold acQ at aZ;cases sb:ops.toList with
  |nil=>rw[sb] at aZ;cases aZ
  |cons o ol=>
   rw[sb] at aZ;have aZ:sel (nR o && bX fn.ntmps o.dst) (Rg E rec fn rest (rec (.ops fn.ntmps (o::ol) ol (aY (setArgs aa 0 .nil) o.dst (Pt u)) [] h)) kk) (.fail "no recover")= .bN l:=aZ;rw[aC] at aZ;split at aZ;rotate_left
   ·cases aZ
   rename_i jI;rw[Bool.and_eq_true] at jI;obtain ⟨hrc,Zl⟩:=jI;unfold Rg at aZ;obtain ⟨l1,h1,h2⟩:=nv aZ;obtain ⟨n1,q1,q2⟩:=lY h2;have hs1:=cn (.ops fn.ntmps (o::ol) ol (aY (setArgs aa 0 .nil) o.dst (Pt u)) [] h);rw[h1] at hs1;have hsz:ops.size=ol.length+1:=by rw[←Array.length_toList,sb];simp
   obtain ⟨no1,fo1,so1⟩:=hs1 ops sb (by rw[hsz,sb];simp) hb
   have hokb:codeOk (.seq (.region id ops false) rest)=true:=by
    have hok:=(hS.fn k fn hfn).2;have hok: @Option.rec Code (fun _=>Bool) true codeOk fn.body=true:=hok
    rw[fS] at hok;exact hok
   have way:∀o1∈l1,o1.e= .normal∧o1.dm= []∧∃l2,rec (.code fn.ntmps rest o1.tm [] o1.h)= .aQ l2∧cX E fn.ntmps rest o1.tm [] o1.h l2∧
     (∀o2∈l2,qb o2.e=true∧o2.dm= []∧(∃vs,gx E o2.tm.get o2.h.hp.get fn.results.toList=some vs)∧∃r',kk o2.h= .bN r'∧∀x∈r',x∈l):=by
    intro o1 ho1;obtain ⟨r1,e1,e2⟩:=q1 o1 ho1;rw[aC] at e1;split at e1;rotate_left
    ·cases e1
    rename_i hc1;rw[Bool.and_eq_true] at hc1;obtain ⟨l2,e3,e4⟩:=nv e1;obtain ⟨n2,p1,p2⟩:=lY e4;have hs2:=cn (.code fn.ntmps rest o1.tm [] o1.h);rw[e3] at hs2;refine ⟨yq hc1.1,Od hc1.2,l2,e3,hs2 (fo1 o1 ho1).1.bd,fun o2 ho2=> ?_⟩
    obtain ⟨r2,e5,e6⟩:=p1 o2 ho2;rw[aC] at e5;split at e5;rotate_left
    ·cases e5
    rename_i hc2;rw[Bool.and_eq_true] at hc2;cases hv:gx E o2.tm.get o2.h.hp.get fn.results.toList with
    |none=>rw[hv] at e5;cases e5
    |some vs=>
     rw[hv] at e5;have e5:kk o2.h= .bN r2:=e5;exact ⟨hc2.1,Od hc2.2,⟨vs,rfl⟩,r2,e5,fun x hx=>e2 x (e6 x hx)⟩
   have back:∀x∈l,∃o1∈l1,∃l2,rec (.code fn.ntmps rest o1.tm [] o1.h)= .aQ l2∧∃o2∈l2,∃r',kk o2.h= .bN r'∧x∈r':=by
    intro x hx;obtain ⟨o1,ho1,r1,e1,e2⟩:=q2 x hx;rw[aC] at e1;split at e1;rotate_left
    ·cases e1
    obtain ⟨l2,e3,e4⟩:=nv e1;obtain ⟨n2,p1,p2⟩:=lY e4;obtain ⟨o2,ho2,r2,e5,e6⟩:=p2 x e2;rw[aC] at e5;split at e5;rotate_left
    ·cases e5
    cases hv:gx E o2.tm.get o2.h.hp.get fn.results.toList with
    |none=>rw[hv] at e5;cases e5
    |some vs=>
     rw[hv] at e5;exact ⟨o1,ho1,l2,e3,o2,ho2,r2,e5,e6⟩
   let hs:List Hs:=l1.flatMap fun o1=>match rec (.code fn.ntmps rest o1.tm [] o1.h) with| .aQ l2=>l2.map (·.h)|_=> []
   have iS:∀h',h'∈hs↔∃o1∈l1,∃l2,rec (.code fn.ntmps rest o1.tm [] o1.h)= .aQ l2∧∃o2∈l2,o2.h=h':=by
    intro h';simp only[hs,List.mem_flatMap];constructor
    ·rintro ⟨o1,ho1,hx⟩;obtain ⟨_,_,l2,e3,_⟩:=way o1 ho1;rw[e3] at hx;obtain ⟨o2,ho2,rfl⟩:=List.mem_map.1 hx;exact ⟨o1,ho1,l2,e3,o2,ho2,rfl⟩
    ·rintro ⟨o1,ho1,l2,e3,o2,ho2,rfl⟩;refine ⟨o1,ho1,?_⟩;rw[e3];exact List.mem_map.2 ⟨o2,ho2,rfl⟩
   refine ⟨hs,?_,fun h' hh'=> ?_,fun x hx=> ?_,fun m g w um us R hE hr hnx hu hus hR=> ?_⟩
   ·obtain ⟨o1,ho1⟩:=List.exists_mem_of_ne_nil _ no1;obtain ⟨_,_,l2,e3,k2,_⟩:=way o1 ho1;obtain ⟨o2,ho2⟩:=List.exists_mem_of_ne_nil _ k2.1;exact List.ne_nil_of_mem ((iS o2.h).2 ⟨o1,ho1,l2,e3,o2,ho2,rfl⟩)
   ·obtain ⟨o1,ho1,l2,e3,o2,ho2,rfl⟩:=(iS h').1 hh';obtain ⟨_,_,l2',e3',k2,w2⟩:=way o1 ho1;rw[e3] at e3';cases e3';obtain ⟨_,_,_,r',z1,z2⟩:=w2 o2 ho2;exact ⟨(fo1 o1 ho1).1.trans (k2.2.1 o2 ho2).1,r',z1,z2⟩
   ·obtain ⟨o1,ho1,l2,e3,o2,ho2,r',z1,z2⟩:=back x hx;exact ⟨o2.h,(iS _).2 ⟨o1,ho1,l2,e3,o2,ho2,rfl⟩,r',z1,z2⟩
   obtain ⟨hPf,_⟩:=hS.fn k fn hfn;refine ⟨us.toArray,?_,?_⟩
   ·rcases gu hPf (by rw[fS];rfl) us.toArray w with ⟨_,hc⟩|hc
    ·exact absurd (by rw[hc];decide) zf
    ·exact hc
   refine callsDIn_of_wpSIn hPf fS trivial (fun c0 cs hc0=>wpSIn_seq ?_)
   subst hc0;obtain ⟨v,cs',u',hv,hvr,hcs',mW⟩:=I9 (cs:=cs) hu;have ho0:ops[0]? =some o:=by
    have:ops.toList[0]? =some o:=by rw[sb];rfl
    simpa using this
   refine tr ho0 hrc hv ?_;have acE:=hus.length;have Kd:List.range' (ops.size-ol.length) ol.length=List.range' 1 (ops.size-1):=by
    have e1:ops.size-ol.length=1:=by omega
    have e2:ops.size-1=ol.length:=by omega
    rw[e1,e2]
   rw[←Kd];refine so1 none m g (Act.put {tmps:=us.toArray++Array.replicate (fn.ntmps-us.toArray.size) undef,defers:= []} o.dst v) w _ (.inl rfl) hE (by rw[jz];exact (FR.args hus hlen).put Zl hvr) hr (by rw[put_defers];exact .nil) hnx (fun o1 ho1 g1 a1 w1 x p0 p1 p2 p3 p4 p5 p6=> ?_)
   obtain ⟨he1,hd1,l2,e3,k2,w2⟩:=way o1 ho1;rw[he1] at p0;cases p0;rw[hd1] at p4;refine wpSIn_of_wpIn (F:=Fence.wide) rfl (kU (F:=fro none) ?_);refine k2.2.2 none m g1 a1 w1 _ (okR hokb) (.inl rfl) (hE.mono p3.le) p1 p2 p4 p5 (fun o2 ho2 g2 a2 w2' x s0 s1 s2 s3 s4 s5 s6=> ?_)
   obtain ⟨z0,z1,⟨vs,z2⟩,_⟩:=w2 o2 ho2;rw[z1] at s4;obtain ⟨rv,y1,y2⟩:=vj ((hE.mono p3.le).mono s3.le) s2 s1 z2;have hd:a2.defers= []:=by
    generalize a2.defers=d at s4;cases s4;rfl
   have fin:a2.defers= []∧∃u'',cs'={c0 with mode:=u''}::cs∧∃v,(results fn a2.tmps).run E.P w2'= .ok v w2'∧R (.returned v) u'' w2':=
    ⟨hd,u',hcs',rv,y1,hR o2.h ((iS _).2 ⟨o1,ho1,l2,e3,o2,ho2,rfl⟩) g2 w2' rv u' mW s2 (p3.trans s3) s5 (fun y hy=>by rw[s6 y (Nat.lt_of_lt_of_le hy (fo1 o1 ho1).1.nx),p6 y hy])⟩
   rcases Qm z0 s0 with rfl|rfl
   ·exact fin
   ·exact fin
theorem jj (hS:jM E) {rec:Job→Out} (cn:∀j,Sound E j (rec j)) {fn:Func} {tm:Tr SV}:∀(mk:List Dm) (u:Option SV) (h:Hs) (l:List Rs),jk E rec fn tm mk u h= .bN l→Bd h→l≠ []∧(∀r∈l,Fac h r.h)∧
  ∀(m nt:Nat) (g:Gh) (w:World) (a:Act) (ds:List Deferred) (um:FrameMode) (R:Ending→World→Prop),bu E g→FR g nt tm.get a.tmps→HR g h.hp.get w→Marks g mk ds→uv g u um→(∀x,h.nx≤x→g.ρ x=none)→
   (∀r∈l,∀e w',BL g h.hp.get w h.nx r e w'→R e w')→LeavesInM Fence.wide m E.P fn a.tmps R ds um w
 | [],u,h,l,aZ,hb=>by
  have aZ:ZK E fn tm u h= .bN l:=aZ;unfold ZK at aZ;cases u with
  |some v=>
   cases (show Out.bN [⟨true,v,h⟩]= .bN l from aZ);refine ⟨by simp,fun r hr=> ?_,fun m nt g w a ds um R hE hfr hr hmk hu hnx hk=> ?_⟩
   ·obtain rfl:=List.mem_singleton.1 hr;exact Fac.refl hb
   ·cases hmk;obtain ⟨x,rfl,hx⟩:=hu;exact hk _ (List.mem_singleton.2 rfl) _ _ ⟨x,g,rfl,hx,hr,Fr.refl _ _ _,fun _ _=>rfl,hnx⟩
  |none=>
   have aZ: @Option.rec (List SV) (fun _=>Out) (.fail fn.name) (fun vs=>.res (oneOf vs) h) (gx E tm.get h.hp.get fn.results.toList)= .bN l:=aZ
   cases hv:gx E tm.get h.hp.get fn.results.toList with
   |none=>rw[hv] at aZ;cases aZ
   |some vs=>
    rw[hv] at aZ;cases (show Out.bN [⟨false,oneOf vs,h⟩]= .bN l from aZ);refine ⟨by simp,fun r hr=> ?_,fun m nt g w a ds um R hE hfr hr hmk hu hnx hk=> ?_⟩
    ·obtain rfl:=List.mem_singleton.1 hr;exact Fac.refl hb
    ·cases hmk;have hu:um= .returning:=hu;subst hu;obtain ⟨v,hv1,hv2⟩:=vj hE hr hfr hv;exact ⟨v,hv1,hk _ (List.mem_singleton.2 rfl) _ _ ⟨v,g,rfl,hv2,hr,Fr.refl _ _ _,fun _ _=>rfl,hnx⟩⟩
 | .mark d::mk,u,h,l,aZ,hb=>by
  unfold jk at aZ;split at aZ;rotate_left
  ·cases aZ
  rename_i hd;have hg:∀x,(⟨h.hp.set d none,h.nx,d::h.lg⟩:Hs).hp.get x=if x=d then none else h.hp.get x:=fun x=>Tr.bR _ _ _ _
  have hb1:Bd ⟨h.hp.set d none,h.nx,d::h.lg⟩:=fun x hx=>by
   rw[hg];split
   ·rfl
   ·exact hb x hx
  have f1:Fac h ⟨h.hp.set d none,h.nx,d::h.lg⟩:=by
   refine ⟨Nat.le_refl _,hb1,fun x hx hn=> ?_,fun x hx=>List.mem_cons_of_mem _ hx,fun x hx hn=> ?_⟩
   ·have hn:x∉d::h.lg:=hn;rw[hg,if_neg (fun e=>hn (by simp[e]))]
   ·rw[hg];split
    ·rfl
    ·exact hn
  obtain ⟨n1,q1,q2⟩:=jj hS cn mk u _ l aZ hb1;refine ⟨n1,fun r hr=>f1.trans (q1 r hr),fun m nt g w a ds um R hE hfr hr hmk hu hnx hk=> ?_⟩
  cases hmk with
  | @mark _ _ r o ds' hρ ht=>
  obtain ⟨hlt,hor⟩:=hr.at hd hρ;have hor:w.heap[r]? =some (.deferred (some [])):=hor;refine ⟨hu.Ww,.inl ⟨r,_,rfl,run_takeDeferred hor,?_⟩⟩;obtain ⟨s1,s2⟩:=HR.drop hr (w':=w.putObj r (.deferred none)) hd hρ (by simp) (fun k hk=>World.putObj_heap_other hk) rfl rfl rfl
  have e:(h.hp.set d none).get=upF h.hp.get (d,none):=funext fun x=>Tr.bR _ _ _ _
  rw[←e] at s1 s2;refine q2 m nt g _ a _ um R hE hfr s1 ht hu hnx (fun r' hr' e' w' ⟨uu,g',p1,p2,p3,p4,p5,p6⟩=>hk r' hr' e' w' ⟨uu,g',p1,p2,p3,s2.trans p4,p5,p6⟩)
 | .fn k aa ca::mk,u,h,l,aZ,hb=>by
  have aZ:Ri E rec (E.fn.get k) (aa++ca) u h (fun h'=>jk E rec fn tm mk none h')= .bN l:=aZ
  obtain ⟨hs,n1,q1,q2,q3⟩:=Rh hS cn aZ hb;have sub:∀h'∈hs,∃r',jk E rec fn tm mk none h'= .bN r'∧(∀x∈r',x∈l)∧Fac h h':=fun h' hh'=>by
   obtain ⟨f1,r',e1,e2⟩:=q1 h' hh';exact ⟨r',e1,e2,f1⟩
  refine ⟨?_,fun r hr=> ?_,fun m nt g w a ds um R hE hfr hr hmk hu hnx hk=> ?_⟩
  ·obtain ⟨h',hh'⟩:=List.exists_mem_of_ne_nil _ n1;obtain ⟨r',e1,e2,f1⟩:=sub h' hh';obtain ⟨n2,_⟩:=jj hS cn mk none h' r' e1 f1.bd;obtain ⟨x,hx⟩:=List.exists_mem_of_ne_nil _ n2;exact List.ne_nil_of_mem (e2 x hx)
  ·obtain ⟨h',hh',r',e1,e2⟩:=q2 r hr;obtain ⟨f1,_⟩:=q1 h' hh';obtain ⟨_,f2,_⟩:=jj hS cn mk none h' r' e1 f1.bd;exact f1.trans (f2 r e2)
  cases hmk with
  | @fn _ _ _ _ ds' us cs h1 h2 ht=>
  have om:VRs g (us.toList++cs.toList) (aa++ca):=h1.append h2;obtain ⟨args,ez,tV⟩:=q3 (m-1) g w um (us.toList++cs.toList) (fun e u' w'=>match e with
    | .returned _=>LeavesInM Fence.wide m E.P fn a.tmps R ds' (settle u') w'
    | .panicked chain=>LeavesInM Fence.wide m E.P fn a.tmps R ds' (raised u' chain) w'
    | .outgrown=>R .outgrown w') hE hr hnx hu om (fun h' hh' g' w' v u' mW p1 p2 p3 p4=>by
   obtain ⟨r',e1,e2,f1⟩:=sub h' hh';obtain ⟨_,_,s3⟩:=jj hS cn mk none h' r' e1 f1.bd;show LeavesInM Fence.wide m E.P fn a.tmps R ds' (settle u') w';rw[mW];exact s3 m nt g' w' a ds' .returning R (hE.mono p2.le) (hfr.mono p2.le) p1 (ht.mono p2.le) rfl p3 (fun x hx e' w2 ⟨uu,g2,t1,t2,t3,t4,t5,t6⟩=>hk x (e2 x hx) e' w2 ⟨uu,g2,t1,t2,t3,p2.trans t4,fun y hy=>by rw[t5 y (Nat.lt_of_lt_of_le hy f1.nx),p4 y hy],t6⟩))
  refine ⟨hu.Ww,.inr ⟨fun hh=>by simp[Fence.wide] at hh,.func k,cs,k,args,rfl,?_,fun _ _=>trivial,?_⟩⟩
  ·have e:us++cs=(us.toList++cs.toList).toArray:=by apply Array.ext';simp
   show (callFunc k (us++cs)).run E.P w=_;rw[e];exact ez
  ·refine tV.mono (fun e u' w' he=> ?_)
   cases e<;>exact he
end
section
variable {E:Env} {g:Gh} {f:Hf} {w:World}
theorem SI.sU:∀{a b:SI},a.eqb b=true→a=b
 | .lit a,.lit b,h=>by
  have h:r7 a b=true:=h;rw[lV] at h;rw[of_decide_eq_true h]
 | .var a,.var b,h=>by rw[(beq_iff _ _).1 (show Nat.beq a b=true from h)]
 | .add k a b,.add k' a' b',h=>by
  have h:(bV k k'&&(a.eqb a'&&b.eqb b'))=true:=h;rw[Bool.and_eq_true,Bool.and_eq_true] at h;rw[de h.1,SI.sU h.2.1,SI.sU h.2.2]
 | .sub k a b,.sub k' a' b',h=>by
  have h:(bV k k'&&(a.eqb a'&&b.eqb b'))=true:=h;rw[Bool.and_eq_true,Bool.and_eq_true] at h;rw[de h.1,SI.sU h.2.1,SI.sU h.2.2]
 | .conv k a,.conv k' a',h=>by
  have h:(bV k k'&&a.eqb a')=true:=h;rw[Bool.and_eq_true] at h;rw[de h.1,SI.sU h.2]
 | .lit _,.var _,h=>by cases h
 | .lit _,.add _ _ _,h=>by cases h
 | .lit _,.sub _ _ _,h=>by cases h
 | .lit _,.conv _ _,h=>by cases h
 | .var _,.lit _,h=>by cases h
 | .var _,.add _ _ _,h=>by cases h
 | .var _,.sub _ _ _,h=>by cases h
 | .var _,.conv _ _,h=>by cases h
 | .add _ _ _,.lit _,h=>by cases h
 | .add _ _ _,.var _,h=>by cases h
 | .add _ _ _,.sub _ _ _,h=>by cases h
 | .add _ _ _,.conv _ _,h=>by cases h
 | .sub _ _ _,.lit _,h=>by cases h
 | .sub _ _ _,.var _,h=>by cases h
 | .sub _ _ _,.add _ _ _,h=>by cases h
 | .sub _ _ _,.conv _ _,h=>by cases h
 | .conv _ _,.lit _,h=>by cases h
 | .conv _ _,.var _,h=>by cases h
 | .conv _ _,.add _ _ _,h=>by cases h
 | .conv _ _,.sub _ _ _,h=>by cases h
theorem afL {a b:Cp} (h:cpB a b=true):a=b:=by
 cases a<;>cases b<;>first|(cases h;done)|(rw[(beq_iff _ _).1 (show Nat.beq _ _=true from h)])
mutual
theorem uY:∀(a b:SV),svB a b=true→a=b
 | .bool a,b,h=>by
  cases b with
  |bool b=>cases a<;>cases b<;>first|rfl|(simp[svB,sel] at h)
  |_=>simp[svB] at h
 | .int k a,b,h=>by
  cases b with
  |int k' b=>
   simp only[svB,Bool.and_eq_true] at h;rw[de h.1,SI.sU h.2]
  |_=>simp[svB] at h
 | .str a,b,h=>by
  cases b with
  |str b=>
   simp only[svB] at h;rw[kD] at h;rw[of_decide_eq_true h]
  |_=>simp[svB] at h
 | .ptr a c,b,h=>by
  cases b with
  |ptr a' c'=>
   simp only[svB,Bool.and_eq_true] at h;rw[(beq_iff _ _).1 h.1,(beq_iff _ _).1 h.2]
  |_=>simp[svB] at h
 | .cz,b,h=>by cases b<;>first|rfl|(simp[svB] at h)
 | .sl a c d e,b,h=>by
  cases b with
  |sl a' c' d' e'=>
   simp only[svB,Bool.and_eq_true] at h;rw[(beq_iff _ _).1 h.1,(beq_iff _ _).1 h.2.1,(beq_iff _ _).1 h.2.2.1,afL h.2.2.2]
  |_=>simp[svB] at h
 | .sle,b,h=>by cases b<;>first|rfl|(simp[svB] at h)
 | .aR,b,h=>by cases b<;>first|rfl|(simp[svB] at h)
 | .mp a,b,h=>by
  cases b with
  |mp b=>simp only[svB] at h;rw[(beq_iff _ _).1 h]
  |_=>simp[svB] at h
 | .cA,b,h=>by cases b<;>first|rfl|(simp[svB] at h)
 | .fn fn a c,b,h=>by
  cases b with
  |fn fn' a' c'=>
   cases fn with
   |func k=>
    cases fn' with
    |func k'=>
     simp only[svB,Bool.and_eq_true] at h;rw[(beq_iff _ _).1 h.1,mD a a' h.2.1,mD c c' h.2.2]
    |_=>simp[svB] at h
   |_=>simp[svB] at h
  |_=>simp[svB] at h
 | .yld a,b,h=>by simp[svB] at h
 | .cK,b,h=>by cases b<;>first|rfl|(simp[svB] at h)
 | .ifc t v,b,h=>by
  cases b with
  |ifc t' v'=>
   simp only[svB,Bool.and_eq_true] at h;rw[(beq_iff _ _).1 h.1,uY v v' h.2]
  |_=>simp[svB] at h
 | .cg,b,h=>by cases b<;>first|rfl|(simp[svB] at h)
 | .agg l,b,h=>by
  cases b with
  |agg l'=>simp only[svB] at h;rw[mD l l' h]
  |_=>simp[svB] at h
 | .tup l,b,h=>by
  cases b with
  |tup l'=>simp only[svB] at h;rw[mD l l' h]
  |_=>simp[svB] at h
 | .undef,b,h=>by simp[svB] at h
theorem mD:∀(a b:List SV),od a b=true→a=b
 | [],[],_=>rfl
 | [],_::_,h=>by simp[od] at h
 |_::_,[],h=>by simp[od] at h
 |x::l,y::m,h=>by
  simp only[od,Bool.and_eq_true] at h;rw[uY x y h.1,mD l m h.2]
end
theorem KB:∀{a b:List (SV×SV×Nat)},xg a b=true→a=b
 | [],[],_=>rfl
 | [],_::_,h=>by simp[xg] at h
 |_::_,[],h=>by simp[xg] at h
 |(x1,x2,x3)::l,(y1,y2,y3)::m,h=>by
  simp only[xg,Bool.and_eq_true] at h;rw[uY _ _ h.1,uY _ _ h.2.1,(beq_iff _ _).1 h.2.2.1,KB h.2.2.2]
theorem Uy {a b:Option SO} (h:soB a b=true):a=b:=by
 unfold soB at h;split at h
 ·rw[Bool.and_eq_true] at h;rw[(beq_iff _ _).1 h.1,mD _ _ h.2]
 ·rw[Bool.and_eq_true] at h;rw[(beq_iff _ _).1 h.1,KB h.2]
 ·cases h
theorem tJ {o:Hp}:∀(l:List Nat) (hp:Hp) (x:Nat) (z:SO),(meet o l hp).get x=some z→hp.get x=some z∧(x∈l→o.get x=some z)
 | [],hp,x,z,h=>⟨h,fun hx=>by simp at hx⟩
 |y::l,hp,x,z,h=>by
  unfold meet at h;rw[aC] at h;split at h
  ·rename_i hs;obtain ⟨h1,h2⟩:=tJ l hp x z h;refine ⟨h1,fun hx=> ?_⟩
   rcases List.mem_cons.1 hx with rfl|hx
   ·rw[←Uy hs];exact h1
   ·exact h2 hx
  ·obtain ⟨h1,h2⟩:=tJ l _ x z h;rw[Tr.bR] at h1;split at h1
   ·cases h1
   ·rename_i hne;refine ⟨h1,fun hx=> ?_⟩
    rcases List.mem_cons.1 hx with rfl|hx
    ·exact absurd rfl hne
    ·exact h2 hx
theorem qW {o:Hp}:∀(l:List Nat) (hp:Hp) (x:Nat),x∉l→(meet o l hp).get x=hp.get x
 | [],_,_,_=>rfl
 |y::l,hp,x,hx=>by
  have h1:x≠y:=fun e=>hx (by simp[e])
  have h2:x∉l:=fun e=>hx (by simp[e])
  unfold meet;rw[aC];split
  ·exact qW l hp x h2
  ·rw[qW l _ x h2,Tr.bR,if_neg h1]
theorem yX:∀{n a x:Nat},x∈CB a n↔a≤x∧x<a+n
 |0,a,x=>by simp[CB]
 |n+1,a,x=>by
  simp only[CB,List.mem_cons];rw[yX];omega
theorem adV (a b:Nat):a≤tK a b∧b≤tK a b:=by
 unfold tK;rw[aC];split
 ·rename_i h;exact ⟨(aX _ _).1 h,Nat.le_refl _⟩
 ·rename_i h;have:¬a≤b:=fun hh=>h ((aX _ _).2 hh)
  omega
structure ou (a j:Rs):Prop where
 pan:j.pan=a.pan
 v:j.v=a.v
 sub:∀x z,j.h.hp.get x=some z→a.h.hp.get x=some z
 nx:a.h.nx≤j.h.nx
theorem ou.refl (a:Rs):ou a a:=⟨rfl,rfl,fun _ _ h=>h,Nat.le_refl _⟩
theorem ou.trans {a b c:Rs} (h:ou a b) (k:ou b c):ou a c:=⟨k.pan.trans h.pan,k.v.trans h.v,fun x z hz=>h.sub x z (k.sub x z hz),Nat.le_trans h.nx k.nx⟩
theorem ou.post {a j:Rs} (h:ou a j) {H:Hf} {nx:Nat} {e:Ending} {w':World} (hp:BL g H w nx a e w'):BL g H w nx j e w':=by
 obtain ⟨u,g',h1,h2,h3,h4,h5,h6⟩:=hp;refine ⟨u,g',by rw[h.pan];exact h1,by rw[h.v];exact h2,h3.sub h.sub,⟨h4.os,h4.tape,h4.output,h4.size,h4.le,h4.old,fun b hb ⟨id,o,c,q1,q2⟩=>h4.own b hb ⟨id,o,c,h.sub id o q1,q2⟩⟩,h5,fun x hx=>h6 x (Nat.le_trans h.nx hx)⟩
theorem P4 {h:Hs} {a b:Rs} (ha:Fac h a.h) (hb:Fac h b.h) (hpa:a.pan=false) (hpb:b.pan=false) (hv:a.v=b.v):ou a (ri h.nx a b)∧ou b (ri h.nx a b)∧Fac h (ri h.nx a b).h:=by
 obtain ⟨m1,m2⟩:=adV a.h.nx b.h.nx;have get:∀x z,(ri h.nx a b).h.hp.get x=some z→a.h.hp.get x=some z∧b.h.hp.get x=some z:=by
  intro x z hz;obtain ⟨h1,h2⟩:=tJ _ _ x z hz;obtain ⟨h3,h4⟩:=tJ _ _ x z h1;refine ⟨h3,?_⟩;by_cases hx:x∈a.h.lg++b.h.lg
  ·exact h4 hx
  ·have hx1:x∉a.h.lg:=fun hc=>hx (by simp[hc])
   have hx2:x∉b.h.lg:=fun hc=>hx (by simp[hc])
   by_cases hl:x<h.nx
   ·rw[hb.lg x hl hx2,←ha.lg x hl hx1];exact h3
   ·by_cases hm:x<tK a.h.nx b.h.nx
    ·exact h2 (yX.2 (by
      show h.nx≤x∧x<h.nx+(tK a.h.nx b.h.nx-h.nx);have:=ha.nx;omega))
    ·rw[ha.bd x (by omega)] at h3;cases h3
 refine ⟨⟨hpa.symm,rfl,fun x z hz=>(get x z hz).1,m1⟩,⟨hpb.symm,hv,fun x z hz=>(get x z hz).2,m2⟩,⟨Nat.le_trans ha.nx m1,fun x hx=> ?_,fun x hx hl=> ?_,fun x hx=> ?_,fun x hx hn=> ?_⟩⟩
 ·have hx:tK a.h.nx b.h.nx≤x:=hx;cases hz:(ri h.nx a b).h.hp.get x with
  |none=>rfl
  |some z=>
   have:=(get x z hz).1;rw[ha.bd x (by omega)] at this;cases this
 ·have hl:x∉a.h.lg++b.h.lg:=hl;show (meet b.h.hp (CB h.nx (Nat.sub (tK a.h.nx b.h.nx) h.nx)) (meet b.h.hp (a.h.lg++b.h.lg) a.h.hp)).get x=_;rw[qW _ _ _ (fun hc=>by have:=(yX.1 hc).1;omega),qW _ _ _ hl]
  exact ha.lg x hx (fun hc=>hl (by simp[hc]))
 ·show x∈a.h.lg++b.h.lg;exact List.mem_append_left _ (ha.sub x hx)
 ·cases hz:(ri h.nx a b).h.hp.get x with
  |none=>rfl
  |some z=>
   have:=(get x z hz).1;rw[ha.dead x hx hn] at this;cases this
theorem AM {h:Hs}:∀{l:List Rs} {a:Rs} {r:List Rs},w8 h.nx a l= .bN r→Fac h a.h→(∀b∈l,Fac h b.h)→∃j,r= [j]∧Fac h j.h∧∀b∈a::l,ou b j
 | [],a,r,hr,ha,_=>by
  cases (show Out.bN [a]= .bN r from hr);exact ⟨a,rfl,ha,fun b hb=>by obtain rfl:=List.mem_singleton.1 hb;exact ou.refl _⟩
 |b::l,a,r,hr,ha,hl=>by
  have hr:sel (a.pan||(b.pan|| !svB a.v b.v)) (.fail "join") (w8 h.nx (ri h.nx a b) l)= .bN r:=hr;rw[aC] at hr;split at hr
  ·cases hr
  rename_i hc;have hc:(a.pan||(b.pan|| !svB a.v b.v))=false:=by simpa using hc
  rw[Bool.or_eq_false_iff,Bool.or_eq_false_iff] at hc;obtain ⟨c1,c2,c3⟩:=hc;have hv:=uY a.v b.v (by simpa using c3)
  obtain ⟨w1,w2,f1⟩:=P4 ha (hl b (by simp)) c1 c2 hv
  obtain ⟨j,rfl,f2,hw⟩:=AM hr f1 (fun x hx=>hl x (by simp[hx]))
  refine ⟨j,rfl,f2,fun x hx=> ?_⟩
  rcases List.mem_cons.1 hx with rfl|hx
  ·exact w1.trans (hw _ (by simp))
  rcases List.mem_cons.1 hx with rfl|hx
  ·exact w2.trans (hw _ (by simp))
  ·exact hw x (by simp[hx])
theorem MZ {b:Bool} {fv:SV} {aa:List SV} {h:Hs} {r:Out} (hs:Sound E (.call fv aa h) r):Sound E (.call fv aa h) (w7 b h.nx r):=by
 unfold w7;cases b with
 |false=>exact hs
 |true=>
  show Sound E (.call fv aa h) (@Out.rec (fun _=>Out) (fun _=>.fail "join") (fun _ _=>.fail "join") (fun l=>P3 h.nx l) (fun s=>.fail s) (fun a b c=>.gM a b c) r)
  cases r with
  |bN l=>
   show Sound E (.call fv aa h) (P3 h.nx l);cases l with
   |nil=>trivial
   |cons a l=>
    show Sound E (.call fv aa h) (w8 h.nx a l);cases hj:w8 h.nx a l with
    |bN r=>
     intro hb;obtain ⟨n1,f1,s1⟩:=hs hb;obtain ⟨j,rfl,f2,hw⟩:=AM hj (f1 a (by simp)) (fun b hb=>f1 b (by simp[hb]))
     refine ⟨by simp,fun x hx=> ?_,fun m g w u us hE hr hnx hu hus=>(s1 m g w u us hE hr hnx hu hus).mono fun e w' ⟨x,hx,hp⟩=>⟨j,by simp,(hw x hx).post hp⟩⟩
     obtain rfl:=List.mem_singleton.1 hx;exact f2
    |_=>trivial
  |_=>trivial
theorem Bp {nx:Nat} {lg:List Nat} {r:Out} {l:List Rs} (h:Bq nx lg r= .bN l):∃l',r= .bN l'∧(l'≠ [])∧(∀x∈l',(⟨x.pan,x.v,⟨x.h.hp,x.h.nx,below nx x.h.lg lg⟩⟩:Rs)∈l)∧∀y∈l,∃x∈l',y=⟨x.pan,x.v,⟨x.h.hp,x.h.nx,below nx x.h.lg lg⟩⟩:=by
 obtain ⟨l',h1,h2⟩:=UJ h;obtain ⟨n1,q1,q2⟩:=lY h2;have one:∀(x:Rs) r',sel x.pan (Out.pan x.v ⟨x.h.hp,x.h.nx,below nx x.h.lg lg⟩) (.res x.v ⟨x.h.hp,x.h.nx,below nx x.h.lg lg⟩)= .bN r'→r'= [⟨x.pan,x.v,⟨x.h.hp,x.h.nx,below nx x.h.lg lg⟩⟩]:=by
  intro x r' hx;cases hp:x.pan with
  |false=>rw[hp] at hx;cases hx;rfl
  |true=>rw[hp] at hx;cases hx;rfl
 refine ⟨l',h1,n1,fun x hx=> ?_,fun y hy=> ?_⟩
 ·obtain ⟨r',e1,e2⟩:=q1 x hx;rw[one x r' e1] at e2;exact e2 _ (by simp)
 ·obtain ⟨x,hx,r',e1,e2⟩:=q2 y hy;rw[one x r' e1] at e2;exact ⟨x,hx,List.mem_singleton.1 e2⟩
theorem Xb (hS:jM E) {rec:Job→Out} (cn:∀j,Sound E j (rec j)) {k:FuncId} {fn:Func} {c:Code} {fi aa ca:List SV} {h:Hs} (hfn:E.fn.get k=some fn) (fS:fn.body=some c) (zf:fn.name≠ "runtime.NumGoroutine") (hlen:(fi++aa++ca).length≤fn.ntmps):
  Sound E (.call (.fn (.func k) fi ca) aa h) (vi E rec fn h.nx h.lg (rec (.code fn.ntmps c (setArgs (fi++aa++ca) 0 .nil) [] ⟨h.hp,h.nx,[]⟩))):=by
 cases aZ:vi E rec fn h.nx h.lg (rec (.code fn.ntmps c (setArgs (fi++aa++ca) 0 .nil) [] ⟨h.hp,h.nx,[]⟩)) with
 |bN l=>
  intro hb;unfold vi at aZ;obtain ⟨l1,h1,h2⟩:=nv aZ;obtain ⟨_,q1,q2⟩:=lY h2;have hs:=cn (.code fn.ntmps c (setArgs (fi++aa++ca) 0 .nil) [] ⟨h.hp,h.nx,[]⟩);rw[h1] at hs;obtain ⟨n1,f1,s1⟩:=hs hb;have way:∀o∈l1,∃u l2,F3 o.e=some u∧jk E rec fn o.tm o.dm u o.h= .bN l2∧l2≠ []∧∀x∈l2,(⟨x.pan,x.v,⟨x.h.hp,x.h.nx,below h.nx x.h.lg h.lg⟩⟩:Rs)∈l:=by
   intro o ho;obtain ⟨r',e1,e2⟩:=q1 o ho;cases hu:F3 o.e with
   |none=>rw[hu] at e1;cases e1
   |some u=>
    rw[hu] at e1;obtain ⟨l2,e3,e4,e5,_⟩:=Bp (show Bq h.nx h.lg (jk E rec fn o.tm o.dm u o.h)= .bN r' from e1);exact ⟨u,l2,rfl,e3,e4,fun x hx=>e2 _ (e5 x hx)⟩
  have back:∀y∈l,∃o∈l1,∃u l2,jk E rec fn o.tm o.dm u o.h= .bN l2∧∃x∈l2,y=⟨x.pan,x.v,⟨x.h.hp,x.h.nx,below h.nx x.h.lg h.lg⟩⟩:=by
   intro y hy;obtain ⟨o,ho,r',e1,e2⟩:=q2 y hy;cases hu:F3 o.e with
   |none=>rw[hu] at e1;cases e1
   |some u=>
    rw[hu] at e1;obtain ⟨l2,e3,e4,_,e5⟩:=Bp (show Bq h.nx h.lg (jk E rec fn o.tm o.dm u o.h)= .bN r' from e1);obtain ⟨x,hx,e6⟩:=e5 y e2;exact ⟨o,ho,u,l2,e3,x,hx,e6⟩
  refine ⟨?_,fun y hy=> ?_,fun m g w u us hE hr hnx hu hus=> ?_⟩
  ·obtain ⟨o,ho⟩:=List.exists_mem_of_ne_nil _ n1;obtain ⟨u,l2,_,_,e4,e5⟩:=way o ho;obtain ⟨x,hx⟩:=List.exists_mem_of_ne_nil _ e4;exact List.ne_nil_of_mem (e5 x hx)
  ·obtain ⟨o,ho,u,l2,e3,x,hx,rfl⟩:=back y hy;obtain ⟨_,f2,_⟩:=jj hS cn _ _ _ _ e3 (f1 o ho).1.bd;have f3:=(f1 o ho).1.trans (f2 x hx);refine ⟨f3.nx,f3.bd,fun z hz hn=>f3.lg z hz (fun hc=>hn (gZ.2 (.inl ⟨hc,hz⟩))),fun z hz=>gZ.2 (.inr hz),f3.dead⟩
  cases hu with
  | @fn _ first cf _ _ hv1 hv2=>
  obtain ⟨hPf,hok⟩:=hS.fn k fn hfn;have fw:VRs g (first.toList++us++cf.toList) (fi++aa++ca):=(hv1.append hus).append hv2
  have jn:first++us.toArray++cf=(first.toList++us++cf.toList).toArray:=by apply Array.ext';simp
  have hokc:codeOk c=true:=by
   have hok: @Option.rec Code (fun _=>Bool) true codeOk fn.body=true:=hok
   rw[fS] at hok;exact hok
  refine ⟨{target:=.fn (.func k) cf,args:=first++us.toArray},rfl,.inl ⟨k,first++us.toArray++cf,?_,?_⟩⟩
  ·show (callFunc k (first++us.toArray++cf)).run E.P w=_
   rcases gu hPf (by rw[fS];rfl) (first++us.toArray++cf) w with ⟨_,hc⟩|hc
   ·exact absurd hc zf
   ·exact hc
  rw[jn];refine callsIn_of_wp_marks (F:=Fence.wide) hPf fS trivial (kU (F:=fro none) ?_);refine s1 none m g {tmps:=_,defers:= []} w _ hokc (.inl rfl) hE (FR.args fw hlen) hr .nil hnx (fun o ho g1 a1 w1 x p0 p1 p2 p3 p4 p5 p6=> ?_)
  obtain ⟨uu,l2,sd,hlv,_,hin⟩:=way o ho;obtain ⟨_,f2,s2⟩:=jj hS cn _ _ _ _ hlv (f1 o ho).1.bd;have fin:∀um,uv g1 uu um→LeavesInM Fence.wide m E.P fn a1.tmps (fun e w'=>∃r∈l,BL g h.hp.get w h.nx r e w') a1.defers um w1:=by
   intro um hum;refine s2 m _ g1 w1 a1 a1.defers um _ (hE.mono p3.le) p1 p2 p4 hum p5 (fun r hr e w' ⟨z,g',t1,t2,t3,t4,t5,t6⟩=> ?_)
   exact ⟨_,hin r hr,z,g',t1,t2,t3,p3.trans t4,fun y hy=>by rw[t5 y (Nat.lt_of_lt_of_le hy (f1 o ho).1.nx),p6 y hy],t6⟩
  generalize hoe:o.e=e at p0 sd;cases p0 with
  |normal=>cases sd;exact fin .returning rfl
  |ret=>cases sd;exact fin .returning rfl
  |exit id=>cases sd
  | @pan v z hv=>cases sd;exact fin _ ⟨z,rfl,hv⟩
 |_=>trivial
theorem uj {fv:SV} {aa:List SV} {h:Hs} {v:SV} {h':Hs} (h1:Bd h→Fac h h'∧jY E false fv aa h.hp.get h.nx v h'.hp.get h'.nx):Sound E (.call fv aa h) (.res v h'):=KT (r:=⟨false,v,h'⟩) h1
theorem zQ {g:Gh} {h:Hs} {w w':World} (hr:HR g h.hp.get w) (hs:BJ w w'):HR g h.hp.get w'∧Fr g h.hp.get w g h.hp.get w':=
 ⟨hr.grow hs.size hs.heap,⟨hs.os,hs.tape,hs.output,hs.size,.refl _,fun b hb _=>hs.heap b hb,fun b hb hm=>hm⟩⟩
theorem zh {P:Program} {k:FuncId} (h:RO P k) (args:Array Value) (w:World):(callFunc k args).run P w= .ok (.enter k args) w:=by
 obtain ⟨fn,h1,h2,h3⟩:=h;rcases gu h1 h2 args w with ⟨_,hc⟩|hc
 ·exact absurd hc h3
 ·exact hc
theorem Kr {k:FuncId} {l:List SV} {v:SV} (h:iV E k l=some v):l= []:=by
 cases l with
 |nil=>rfl
 |cons a l=>cases h
theorem Rf (hS:jM E) {k:FuncId} {fi aa ca:List SV} {h:Hs} {v:SV} (hd:iV E k (fi++aa++ca)=some v):Sound E (.call (.fn (.func k) fi ca) aa h) (.res v h):=by
 refine uj (fun hb=> ?_)
 have mX:=Kr hd;obtain ⟨hfa,rfl⟩:=List.append_eq_nil_iff.1 mX;obtain ⟨rfl,rfl⟩:=List.append_eq_nil_iff.1 hfa;obtain ⟨hgo,h4⟩:=hS.done k v hd;refine ⟨Fac.refl hb,fun m g w u us hE hr hnx hu hus=> ?_⟩
 cases hu with
 | @fn _ first cf _ _ hv1 hv2=>
 have ef:first= #[]:=by
  generalize hz:first.toList=z at hv1
  cases hv1;simpa using hz
 have ec:cf= #[]:=by
  generalize hz:cf.toList=z at hv2;cases hv2;simpa using hz
 cases hus;subst ef;subst ec;refine ⟨{target:=.fn (.func k) #[],args:= #[]},rfl,.inl ⟨k,#[],zh hgo #[] w,?_⟩⟩;refine CallsIn.mono (h4 m w) ?_;rintro e w' ⟨r,rfl,hv,hs⟩;obtain ⟨s1,s2⟩:=zQ hr hs;exact ⟨r,rfl,g,hv g,s1,s2,fun _ _=>rfl,hnx⟩
theorem M0 {k:Nat} {l:List SV} (h:fM E k l=true):∃t x y,l= [.ifc t x,y]∧zP k t E.jZ=true∧aan x=true∧isFn y=true:=by
 unfold fM at h;split at h
 ·rename_i t x y;rw[Bool.and_eq_true,Bool.and_eq_true] at h;exact ⟨t,x,y,rfl,h.1,h.2.1,h.2.2⟩
 ·cases h
theorem O0 (hS:jM E) {k:FuncId} {fi aa ca:List SV} {h:Hs} (ht:fM E k (fi++aa++ca)=true):Sound E (.call (.fn (.func k) fi ca) aa h) (.res (.tup []) h):=by
 refine uj (fun hb=>⟨Fac.refl hb,fun m g w u us hE hr hnx hu hus=> ?_⟩)
 obtain ⟨t,x,y,hl,h1,h2,h3⟩:=M0 ht;obtain ⟨hgo,h4⟩:=hS.jZ k t h1;cases hu with
 | @fn _ first cf _ _ hv1 hv2=>
 have fw:VRs g (first.toList++us++cf.toList) [.ifc t x,y]:=by rw[←hl];exact (hv1.append hus).append hv2
 have jn:first++us.toArray++cf=(first.toList++us++cf.toList).toArray:=by apply Array.ext';simp
 obtain ⟨v1,v2,e,r1,r2⟩:=pq fw;rw[e] at jn;have hy:∃lf la lb,v2= .func lf la lb:=by
  cases y with
  |fn f a c=>cases r2;exact ⟨_,_,_,rfl⟩
  |_=>cases h3
 obtain ⟨lf,la,lb,rfl⟩:=hy;have hx:∃p n c,v1= .iface t (.slice p n c)∧n≤1:=by
  cases r1 with
  |ifc hr1=>
   cases x with
   |sl id off n cap=>cases hr1;exact ⟨_,_,_,rfl,(aX _ _).1 h2⟩
   |aR=>cases hr1;exact ⟨_,_,_,rfl,Nat.zero_le _⟩
   |sle=>cases hr1;exact ⟨_,_,_,rfl,Nat.zero_le _⟩
   |_=>cases h2
 obtain ⟨p,n,c,rfl,hn⟩:=hx;refine ⟨{target:=.fn (.func k) cf,args:=first++us.toArray},rfl,.inl ⟨k,#[.iface t (.slice p n c),.func lf la lb],?_,?_⟩⟩
 ·show (callFunc k (first++us.toArray++cf)).run E.P w=_
  rw[jn];exact zh hgo _ w
 refine CallsIn.mono (h4 m w p n c lf la lb hn) ?_;rintro e w' ⟨rfl,hs⟩;obtain ⟨s1,s2⟩:=zQ hr hs;exact ⟨.tuple #[],rfl,g,.tup .nil,s1,s2,fun _ _=>rfl,hnx⟩
theorem hY {x:Nat}:∀{l:List (Nat×SO)} {t:Hp},x∉l.map (·.1)→(bU l t).get x=t.get x
 | [],_,_=>rfl
 |p::l,t,h=>by
  have h:x∉p.1::l.map (·.1):=h
  rw[List.mem_cons,not_or] at h;show ((bU l t).set p.1 (some p.2)).get x=_;rw[Tr.bR,if_neg h.1,hY h.2]
theorem Og {x:Nat} {s:Hp}:∀{l:List (Nat×SO)} {t:Hp},x∈l.map (·.1)→(bU l t).get x=(bU l s).get x
 | [],_,h=>by cases h
 |p::l,t,h=>by
  show ((bU l t).set p.1 (some p.2)).get x=((bU l s).set p.1 (some p.2)).get x;rw[Tr.bR,Tr.bR];split
  ·rfl
  ·rename_i hx;refine Og ?_;rcases List.mem_cons.1 (show x∈p.1::l.map (·.1) from h) with e|h
   ·exact absurd e hx
   ·exact h
theorem kW {x:Nat}:∀{l:List (Nat×SO)} {t:Hp},x∈l.map (·.1)→∃o,(bU l t).get x=some o∧(x,o)∈l
 | [],_,h=>by cases h
 |p::l,t,h=>by
  by_cases hx:x=p.1
  ·subst hx;exact ⟨p.2,by show ((bU l t).set p.1 (some p.2)).get p.1=_;rw[Tr.bR,if_pos rfl],by simp⟩
  ·rcases List.mem_cons.1 (show x∈p.1::l.map (·.1) from h) with e|h
   ·exact absurd e hx
   ·obtain ⟨o,h1,h2⟩:=kW (t:=t) h;refine ⟨o,?_,List.mem_cons_of_mem _ h2⟩;show ((bU l t).set p.1 (some p.2)).get x=_;rw[Tr.bR,if_neg hx,h1]
theorem DB {h:Hp}:∀{l:List (Nat×SO)},inB h l=true→∀x o,(x,o)∈l→h.get x=some o
 | [],_,x,o,hm=>by cases hm
 |p::l,hb,x,o,hm=>by
  have hb:(soB (h.get p.1) (some p.2)&&inB h l)=true:=hb;rw[Bool.and_eq_true] at hb;rcases List.mem_cons.1 hm with e|hm
  ·cases e;exact Uy hb.1
  ·exact DB hb.2 x o hm
theorem Te {k:Nat} {aa:List SV} {h:Hs} {m m':Mo} (hm:Hu k aa h m=some m'):∃τ,τ=tau (ZZ h.hp m.inp (rC m.aa aa)) m.nx h.nx∧m.k=k∧m'=m.ren τ h.nx∧YE m τ h.nx=true∧od aa m'.aa=true∧inB h.hp m'.inp=true:=by
 obtain ⟨hk,hm⟩:=av hm;obtain ⟨hc,hm⟩:=av (show acI m _ aa h _=some m' from hm);cases hm;rw[Bool.and_eq_true,Bool.and_eq_true] at hc;exact ⟨_,rfl,(beq_iff _ _).1 hk,rfl,hc.1,hc.2.1,hc.2.2⟩
theorem yx {k:Nat} {aa:List SV} {h:Hs} {m':Mo}:∀{l:List Mo},jr k aa h l=some m'→∃m∈l,Hu k aa h m=some m'
 | [],h=>by cases h
 |x::l,hf=>by
  have hf: @Option.rec Mo (fun _=>Option Mo) (jr k aa h l) (fun m'=>some m') (Hu k aa h x)=some m':=hf
  cases ht:Hu k aa h x with
  |some y=>
   rw[ht] at hf;cases hf;exact ⟨x,by simp,ht⟩
  |none=>
   rw[ht] at hf;obtain ⟨m,h1,h2⟩:=yx (l:=l) hf;exact ⟨m,List.mem_cons_of_mem _ h1,h2⟩
theorem YN {m:Mo} {h:Hp} (hin:inB h m.inp=true) (x:Nat):(bU m.out h).get x=gg (fun x=>decide (x∈m.out.map (·.1))||decide (x∈m.inp.map (·.1))) (bU m.out (bU m.inp .nil)).get h.get x:=by
 unfold gg;by_cases ho:x∈m.out.map (·.1)
 ·rw[if_pos (by simp only[Bool.or_eq_true,decide_eq_true_eq];exact .inl ho)]
  exact Og ho
 ·rw[hY ho];by_cases hi:x∈m.inp.map (·.1)
  ·rw[if_pos (by simp only[Bool.or_eq_true,decide_eq_true_eq];exact .inr hi),hY ho]
   obtain ⟨o,h1,h2⟩:=kW (t:=.nil) hi;rw[h1];exact DB hin x o h2
  ·rw[if_neg (by simp only[Bool.or_eq_true,decide_eq_true_eq,not_or];exact ⟨ho,hi⟩)]
def pull (τ:Nat→Nat) (D:Nat→Prop) [DecidablePred D] (g:Gh):Gh:={g with ρ:=fun id=>if D id then g.ρ (τ id) else none,lim:=fun id=>g.lim (τ id),et:=fun id=>g.et (τ id)}
section
variable {τ:Nat→Nat} {D:Nat→Prop} [DecidablePred D] {S:List Nat}
theorem wR {id:Nat} (h:D id):(pull τ D g).ρ id=g.ρ (τ id):=if_pos h
mutual
theorem VR.pull (hS:∀x,x∈S→D x):∀{x:SV} {v:Value},VR g v (mK τ x)→inS S x=true→VR (pull τ D g) v x
 | .bool b,_,h,_=>by cases (show VR g _ (.bool b) from h);exact .bool b
 | .int k e,_,h,_=>by cases (show VR g _ (.int k e) from h) with|int _ _ q=>exact .int k e q
 | .str s,_,h,_=>by cases (show VR g _ (.str s) from h);exact .str s
 | .ptr a o,_,h,hs=>by
  have hm:=hS _ ((dV _ _).1 (show cc a S=true from hs));cases (show VR g _ (.ptr (τ a) o) from h) with|ptr q=>exact .ptr ((wR hm).trans q)
 | .cz,_,h,_=>by cases (show VR g _ .cz from h);exact .cz
 | .sl a o n c,_,h,hs=>by
  have hm:=hS _ ((dV _ _).1 (show cc a S=true from hs));cases (show VR g _ (.sl (τ a) o n c) from h) with|sl q h1 h2 h3=>exact .sl ((wR hm).trans q) h1 h2 h3
 | .sle,_,h,_=>by cases (show VR g _ .sle from h);exact .sle
 | .aR,_,h,_=>by cases (show VR g _ .aR from h);exact .aR
 | .mp a,_,h,hs=>by
  have hm:=hS _ ((dV _ _).1 (show cc a S=true from hs));cases (show VR g _ (.mp (τ a)) from h) with|mp q=>exact .mp ((wR hm).trans q)
 | .cA,_,h,_=>by cases (show VR g _ .cA from h);exact .cA
 | .fn f a c,_,h,hs=>by
  have hz:=(Bool.and_eq_true_iff).1 (show (j3 S a&&j3 S c)=true from hs);cases (show VR g _ (.fn f (gN τ a) (gN τ c)) from h) with|fn h1 h2=>exact .fn (VRs.pull hS h1 hz.1) (VRs.pull hS h2 hz.2)
 | .yld a,_,h,hs=>by cases hs
 | .cK,_,h,_=>by cases (show VR g _ .cK from h);exact .cK
 | .ifc t v,_,h,hs=>by cases (show VR g _ (.ifc t (mK τ v)) from h) with|ifc q=>exact .ifc (VR.pull hS q hs)
 | .cg,_,h,_=>by cases (show VR g _ .cg from h);exact .cg
 | .agg l,_,h,hs=>by cases (show VR g _ (.agg (gN τ l)) from h) with|agg q=>exact .agg (VCs.pull hS q hs)
 | .tup l,_,h,hs=>by cases (show VR g _ (.tup (gN τ l)) from h) with|tup q=>exact .tup (VRs.pull hS q hs)
 | .undef,_,h,hs=>by cases hs
theorem VRs.pull (hS:∀x,x∈S→D x):∀{xs:List SV} {vs:List Value},VRs g vs (gN τ xs)→j3 S xs=true→VRs (pull τ D g) vs xs
 | [],_,h,_=>by cases (show VRs g _ [] from h);exact .nil
 |x::l,_,h,hs=>by
  have hz:=(Bool.and_eq_true_iff).1 (show (inS S x&&j3 S l)=true from hs);cases (show VRs g _ (mK τ x::gN τ l) from h) with|cons h1 h2=>exact .cons (VR.pull hS h1 hz.1) (VRs.pull hS h2 hz.2)
theorem VCs.pull (hS:∀x,x∈S→D x):∀{xs:List SV} {vs:List Value},VCs g vs (gN τ xs)→j3 S xs=true→VCs (pull τ D g) vs xs
 | [],_,h,_=>by cases (show VCs g _ [] from h);exact .nil
 |x::l,_,h,hs=>by
  have hz:=(Bool.and_eq_true_iff).1 (show (inS S x&&j3 S l)=true from hs);cases (show VCs g _ (mK τ x::gN τ l) from h) with|cons h1 h2 h3=>exact .cons h1 (VR.pull hS h2 hz.1) (VCs.pull hS h3 hz.2)
end
theorem cy.pull (hS:∀x,x∈S→D x):∀{xs:List (SV×SV×Nat)} {ms:List MapEntry},cy g ms (wN τ xs)→y9 S xs=true→cy (pull τ D g) ms xs
 | [],_,h,_=>by cases (show cy g _ [] from h);exact .nil
 |x::l,_,h,hs=>by
  have hz:=(Bool.and_eq_true_iff).1 (show ((inS S x.1&&inS S x.2.1)&&y9 S l)=true from hs);have h0:=(Bool.and_eq_true_iff).1 hz.1;cases (show cy g _ ((mK τ x.1,mK τ x.2.1,x.2.2)::wN τ l) from h) with|cons h1 h2=>exact .cons ⟨VR.pull hS h1.1 h0.1,VR.pull hS h1.2.1 h0.2,h1.2.2⟩ (cy.pull hS h2 hz.2)
theorem OR.pull (hS:∀x,x∈S→D x) {w:World} {id b o:Nat} {x:SO} (h:OR g w (τ id) b o (mL τ x)) (hx:inO S x=true):OR (pull τ D g) w id b o x:=by
 cases x with
 |cells e cs=>
  obtain ⟨⟨cur,h1,h0,vs,h2,h3⟩,h4⟩:=(show Cells g w (τ id) b o e (gN τ cs) from h);exact ⟨⟨cur,h1,h0,vs,VCs.pull hS h2 hx,h3⟩,h4⟩
 |map es c=>obtain ⟨ms,h1,h2⟩:=h;exact ⟨ms,h1,cy.pull hS h2 hx⟩
 |gm s pos=>cases hx
 |mapIter mp since seen last=>cases hx
 |loop nt tm ps aa bo st pe dd=>cases hx
 |dfr=>cases hx
 |ro cs=>cases hx
end
structure Ed (τ:Nat→Nat) (g g':Gh):Prop where
 η:g'.η=g.η
 sz:g'.sz=g.sz
 ρ:∀id p,g.ρ id=some p→g'.ρ (τ id)=some p
 lim:∀id p,g.ρ id=some p→g'.lim (τ id)=g.lim id
 et:∀id p,g.ρ id=some p→g'.et (τ id)=g.et id
section
variable {τ:Nat→Nat}
mutual
theorem VR.push {g g':Gh} (hp:Ed τ g g'):∀{v x},VR g v x→VR g' v (mK τ x)
 |_,_,.bool b=>.bool b
 |_,_,.int k e h=>.int k e (by rw[hp.η];exact h)
 |_,_,.str s=>.str s
 |_,_,.ptr h=>.ptr (hp.ρ _ _ h)
 |_,_,.cz=>.cz
 |_,_,.sl h hn hc hl=>.sl (hp.ρ _ _ h) hn hc (fun e he=>by rw[hp.sz,hp.et _ _ h,hp.lim _ _ h];exact hl e he)
 |_,_,.sle=>.sle
 |_,_,.aR=>.aR
 |_,_,.mp h=>.mp (hp.ρ _ _ h)
 |_,_,.cA=>.cA
 |_,_,.fn h1 h2=>.fn (h1.push hp) (h2.push hp)
 |_,_,.yld h=>.yld (hp.ρ _ _ h)
 |_,_,.cK=>.cK
 |_,_,.ifc h=>.ifc (h.push hp)
 |_,_,.cg=>.cg
 |_,_,.agg h=>.agg (h.push hp)
 |_,_,.tup h=>.tup (h.push hp)
 |_,_,.undef v=>.undef v
theorem VRs.push {g g':Gh} (hp:Ed τ g g'):∀{v x},VRs g v x→VRs g' v (gN τ x)
 |_,_,.nil=>.nil
 |_,_,.cons h ht=>.cons (h.push hp) (ht.push hp)
theorem VCs.push {g g':Gh} (hp:Ed τ g g'):∀{v x},VCs g v x→VCs g' v (gN τ x)
 |_,_,.nil=>.nil
 |_,_,.cons h1 h ht=>.cons h1 (h.push hp) (ht.push hp)
end
theorem cy.push {g g':Gh} (hp:Ed τ g g'):∀{ms:List MapEntry} {xs:List (SV×SV×Nat)},cy g ms xs→cy g' ms (wN τ xs)
 |_,_,.nil=>.nil
 |_,_,.cons h ht=>.cons ⟨h.1.push hp,h.2.1.push hp,h.2.2⟩ (ht.push hp)
theorem OR.push {g g':Gh} (hp:Ed τ g g') {w:World} {id b o:Nat} {x:SO} (hρ:g.ρ id=some (b,o)) (h:OR g w id b o x) (hx:sG x=true):OR g' w (τ id) b o (mL τ x):=by
 cases x with
 |cells e cs=>
  obtain ⟨⟨cur,h1,h0,vs,h2,h3⟩,h4⟩:=h;exact ⟨⟨cur,h1,by rw[hp.lim _ _ hρ];exact h0,vs,h2.push hp,h3⟩,(hp.et _ _ hρ).trans h4⟩
 |map es c=>obtain ⟨ms,h1,h2⟩:=h;exact ⟨ms,h1,h2.push hp⟩
 |gm s pos=>cases hx
 |mapIter mp since seen last=>cases hx
 |loop nt tm ps aa bo st pe dd=>cases hx
 |dfr=>cases hx
 |ro cs=>cases hx
theorem Yi (a b:List (Nat×SO)):g9 τ (a++b)=g9 τ a++g9 τ b:=by
 induction a with
 |nil=>rfl
 |cons p l ih=>show (τ p.1,mL τ p.2)::g9 τ (l++b)=_;rw[ih];rfl
theorem yU (a b:List (Nat×SO)) (t:Hp):bU (a++b) t=bU a (bU b t):=by
 induction a with
 |nil=>rfl
 |cons p l ih=>show (bU (l++b) t).set p.1 (some p.2)=_;rw[ih];rfl
theorem yY {l:List (Nat×SO)} {q:Nat×SO} (h:q∈g9 τ l):∃p∈l,q=(τ p.1,mL τ p.2):=by
 induction l with
 |nil=>cases h
 |cons p l ih=>
  rcases List.mem_cons.1 (show q∈(τ p.1,mL τ p.2)::g9 τ l from h) with e|h
  ·exact ⟨p,by simp,e⟩
  ·obtain ⟨p',h1,h2⟩:=ih h;exact ⟨p',List.mem_cons_of_mem _ h1,h2⟩
theorem yK {l:List (Nat×SO)} {p:Nat×SO} (h:p∈l):(τ p.1,mL τ p.2)∈g9 τ l:=by
 induction l with
 |nil=>cases h
 |cons q l ih=>
  rcases List.mem_cons.1 h with rfl|h
  ·exact List.mem_cons_self
  ·exact List.mem_cons_of_mem _ (ih h)
theorem NJ {D:Nat→Prop} (inj:∀i j,D i→D j→τ i=τ j→i=j):∀{l:List (Nat×SO)},(∀p∈l,D p.1)→∀y o',(bU (g9 τ l) .nil).get y=some o'→∃id o,D id∧id∈l.map (·.1)∧y=τ id∧(bU l .nil).get id=some o∧o'=mL τ o
 | [],_,y,o',h=>by cases h
 |p::l,hD,y,o',h=>by
  have h:((bU (g9 τ l) .nil).set (τ p.1) (some (mL τ p.2))).get y=some o':=h;have e:∀x,(bU (p::l) .nil).get x=if x=p.1 then some p.2 else (bU l .nil).get x:=fun x=>by
   show ((bU l .nil).set p.1 (some p.2)).get x=_;rw[Tr.bR]
  rw[Tr.bR] at h;split at h
  ·rename_i hy;cases h;exact ⟨p.1,p.2,hD p (by simp),by simp,hy,by rw[e,if_pos rfl],rfl⟩
  ·rename_i hy;obtain ⟨id,o,h1,h2,h3,h4,h5⟩:=NJ inj (fun q hq=>hD q (List.mem_cons_of_mem _ hq)) y o' h
   refine ⟨id,o,h1,by simp at h2 ⊢;exact .inr h2,h3,?_,h5⟩
   rw[e,if_neg (fun hc=>hy (by rw[h3,hc]))]
   exact h4
theorem sR {D:Nat→Prop} (inj:∀i j,D i→D j→τ i=τ j→i=j):∀{l:List (Nat×SO)},(∀p∈l,D p.1)→∀id o,D id→(bU l .nil).get id=some o→(bU (g9 τ l) .nil).get (τ id)=some (mL τ o)
 | [],_,id,o,_,h=>by cases h
 |p::l,hD,id,o,hid,h=>by
  have h:((bU l .nil).set p.1 (some p.2)).get id=some o:=h;show ((bU (g9 τ l) .nil).set (τ p.1) (some (mL τ p.2))).get (τ id)=_;rw[Tr.bR] at h ⊢;split at h
  ·rename_i hy;cases h;rw[if_pos (by rw[hy])]
  ·rename_i hy;rw[if_neg (fun hc=>hy (inj _ _ hid (hD p (by simp)) hc))]
   exact sR inj (fun q hq=>hD q (List.mem_cons_of_mem _ hq)) id o hid h
theorem sk {N:Nat}:∀{l:List (Nat×SO)},wg τ N l=true→∀p∈l,τ p.1<N
 | [],_,p,hp=>by cases hp
 |x::l,h,p,hp=>by
  have h:=(Bool.and_eq_true_iff).1 (show (Nat.ble (Nat.succ (τ x.1)) N&&wg τ N l)=true from h);rcases List.mem_cons.1 hp with rfl|hp
  ·exact (aX _ _).1 h.1
  ·exact sk h.2 p hp
theorem Bl:∀{l:List (Nat×SO)},Bm τ l=true→∀i j,i∈l.map (·.1)→j∈l.map (·.1)→τ i=τ j→i=j
 | [],_,i,j,hi,_,_=>by cases hi
 |x::l,h,i,j,hi,hj,e=>by
  have h:=(Bool.and_eq_true_iff).1 (show (!cc (τ x.1) (l.map fun q=>τ q.1)&&Bm τ l)=true from h)
  have hn:∀k,k∈l.map (·.1)→τ x.1≠τ k:=fun k hk hc=>by
   have hm:τ x.1∈l.map fun q=>τ q.1:=by
    obtain ⟨q,hq,rfl⟩:=List.mem_map.1 hk;rw[hc];exact List.mem_map.2 ⟨q,hq,rfl⟩
   rw[(dV _ _).2 hm] at h;cases h.1
  rcases List.mem_cons.1 (show i∈x.1::l.map (·.1) from hi) with ei|hi
  ·rcases List.mem_cons.1 (show j∈x.1::l.map (·.1) from hj) with ej|hj
   ·rw[ei,ej]
   ·rw[ei] at e;exact absurd e (hn j hj)
  ·rcases List.mem_cons.1 (show j∈x.1::l.map (·.1) from hj) with ej|hj
   ·rw[ej] at e;exact absurd e.symm (hn i hi)
   ·exact Bl h.2 i j hi hj e
end
theorem y7 {S:List Nat}:∀{l:List (Nat×SO)},y8 S l=true→∀x o,(x,o)∈l→inO S o=true
 | [],_,x,o,h=>by cases h
 |p::l,hb,x,o,h=>by
  have hb:=(Bool.and_eq_true_iff).1 (show (inO S p.2&&y8 S l)=true from hb);rcases List.mem_cons.1 h with e|h
  ·cases e;exact hb.1
  ·exact y7 hb.2 x o h
mutual
theorem xa {τ:Nat→Nat} {S S':List Nat} (hS:∀x,x∈S→τ x∈S'):∀(x:SV),inS S x=true→inS S' (mK τ x)=true
 | .bool _,_=>rfl
 | .int _ _,_=>rfl
 | .str _,_=>rfl
 | .ptr a _,h=>(dV _ _).2 (hS _ ((dV _ _).1 (show cc a S=true from h)))
 | .cz,_=>rfl
 | .sl a _ _ _,h=>(dV _ _).2 (hS _ ((dV _ _).1 (show cc a S=true from h)))
 | .sle,_=>rfl
 | .aR,_=>rfl
 | .mp a,h=>(dV _ _).2 (hS _ ((dV _ _).1 (show cc a S=true from h)))
 | .cA,_=>rfl
 | .fn _ a c,h=>by
  have h:=(Bool.and_eq_true_iff).1 (show (j3 S a&&j3 S c)=true from h);exact (Bool.and_eq_true_iff).2 ⟨lG hS a h.1,lG hS c h.2⟩
 | .yld _,h=>by cases h
 | .cK,_=>rfl
 | .ifc _ v,h=>xa hS v h
 | .cg,_=>rfl
 | .agg l,h=>lG hS l h
 | .tup l,h=>lG hS l h
 | .undef,h=>by cases h
theorem lG {τ:Nat→Nat} {S S':List Nat} (hS:∀x,x∈S→τ x∈S'):∀(l:List SV),j3 S l=true→j3 S' (gN τ l)=true
 | [],_=>rfl
 |x::l,h=>by
  have h:=(Bool.and_eq_true_iff).1 (show (inS S x&&j3 S l)=true from h);exact (Bool.and_eq_true_iff).2 ⟨xa hS x h.1,lG hS l h.2⟩
end
theorem J2 {τ:Nat→Nat} {S S':List Nat} (hS:∀x,x∈S→τ x∈S'):∀(l:List (SV×SV×Nat)),y9 S l=true→y9 S' (wN τ l)=true
 | [],_=>rfl
 |x::l,h=>by
  have h:=(Bool.and_eq_true_iff).1 (show ((inS S x.1&&inS S x.2.1)&&y9 S l)=true from h);have h0:=(Bool.and_eq_true_iff).1 h.1;exact (Bool.and_eq_true_iff).2 ⟨(Bool.and_eq_true_iff).2 ⟨xa hS _ h0.1,xa hS _ h0.2⟩,J2 hS l h.2⟩
theorem J1 {τ:Nat→Nat} {S S':List Nat} (hS:∀x,x∈S→τ x∈S'):∀(l:List (Nat×SO)),y8 S l=true→y8 S' (g9 τ l)=true
 | [],_=>rfl
 |p::l,h=>by
  have h:=(Bool.and_eq_true_iff).1 (show (inO S p.2&&y8 S l)=true from h);refine (Bool.and_eq_true_iff).2 ⟨?_,J1 hS l h.2⟩;have h1:=h.1;cases hp:p.2 with
  |cells e cs=>rw[hp] at h1;exact lG hS cs h1
  |map es c=>rw[hp] at h1;exact J2 hS es h1
  |gm s pos=>rw[hp] at h1;cases h1
  |mapIter mp since seen last=>rw[hp] at h1;cases h1
  |loop nt tm ps aa bo st pe dd=>rw[hp] at h1;cases h1
  |dfr=>rw[hp] at h1;cases h1
  |ro cs=>rw[hp] at h1;cases h1
theorem W3 {S:List Nat} {o:SO} (h:inO S o=true):sG o=true:=by cases o<;>first|rfl|(cases h)
theorem Vb {τ:Nat→Nat} {o:SO} (h:sG o=true):sG (mL τ o)=true:=by cases o<;>first|rfl|(cases h)
theorem aeN {σ:List (Nat×Nat)} {nx N a:Nat} (h:nx≤a):tau σ nx N a=N+(a-nx):=by
 unfold tau;rw[aC,if_pos ((aX _ _).2 h)];rfl
theorem ow.ren {m:Mo} (h:ow E m) {σ:List (Nat×Nat)} {N:Nat} (hok:YE m (tau σ m.nx N) N=true):ow E (m.ren (tau σ m.nx N) N):=by
 generalize hτ:tau σ m.nx N=τ at hok;obtain ⟨hgo,⟨f1,f2,f3,f4,f5,f6⟩,sem⟩:=h;obtain ⟨k1,k2⟩:=(Bool.and_eq_true_iff).1 (show (wg τ N m.inp&&Bm τ m.inp)=true from hok);have thi:∀a,m.nx≤a→τ a=N+(a-m.nx):=fun a ha=>by rw[←hτ];exact aeN ha
 have tlo:∀a,a∈m.inp.map (·.1)→τ a<N:=fun a ha=>by
  obtain ⟨p,hp,rfl⟩:=List.mem_map.1 ha;exact sk k1 p hp
 have slo:∀a,a∈m.inp.map (·.1)→a<m.nx:=fun a ha=>by
  obtain ⟨p,hp,rfl⟩:=List.mem_map.1 ha;exact f1 p hp
 let D:Nat→Prop:=fun a=>a∈m.inp.map (·.1)∨m.nx≤a
 have inj:∀i j,D i→D j→τ i=τ j→i=j:=fun i j hi hj e=>by
  rcases hi with hi|hi<;>rcases hj with hj|hj
  ·exact Bl k2 i j hi hj e
  ·have:=tlo i hi;rw[thi j hj] at e;omega
  ·have:=tlo j hj;rw[thi i hi] at e;omega
  ·rw[thi i hi,thi j hj] at e;omega
 have LU:∀p∈m.inp,D p.1:=fun p hp=>.inl (List.mem_map.2 ⟨p,hp,rfl⟩)
 have Dout:∀p∈m.out,D p.1:=fun p hp=>(f2 p hp).2.symm
 have ee:∀(a b:List (Nat×SO)),bU (g9 τ a) (bU (g9 τ b) .nil)=bU (g9 τ (a++b)) .nil:=fun a b=>by rw[Yi,yU]
 refine ⟨hgo,⟨fun p hp=> ?_,fun p hp=> ?_,Nat.le_add_right _ _,?_,?_,fun p hp=> ?_⟩,fun j g w us hE hr hfr hus=> ?_⟩
 ·obtain ⟨q,hq,rfl⟩:=yY hp;exact sk k1 q hq
 ·obtain ⟨q,hq,rfl⟩:=yY hp;obtain ⟨z1,z2⟩:=f2 q hq;show τ q.1<N+(m.nx'-m.nx)∧(N≤τ q.1∨τ q.1∈(g9 τ m.inp).map (·.1))
  rcases z2 with z2|z2
  ·rw[thi _ z2];exact ⟨by omega,.inl (by omega)⟩
  ·have:=tlo _ z2;obtain ⟨p,hp,e⟩:=List.mem_map.1 z2;exact ⟨by omega,.inr (List.mem_map.2 ⟨_,yK hp,by show τ p.1=τ q.1;rw[e]⟩)⟩
 ·refine lG (fun x hx=> ?_) _ f4
  obtain ⟨p,hp,rfl⟩:=List.mem_map.1 hx;exact List.mem_map.2 ⟨_,yK hp,rfl⟩
 ·refine J1 (fun x hx=> ?_) _ f5
  obtain ⟨p,hp,rfl⟩:=List.mem_map.1 hx;exact List.mem_map.2 ⟨_,yK hp,rfl⟩
 ·obtain ⟨q,hq,rfl⟩:=yY hp;exact Vb (f6 q hq)
 have hfr:∀x,N≤x→g.ρ x=none:=hfr;have hr:HR g (bU (g9 τ m.inp) .nil).get w:=hr;have hDS:∀x,x∈m.inp.map (·.1)→D x:=fun x hx=>.inl hx
 letI:DecidablePred D:=fun a=>inferInstanceAs (Decidable (_∨_))
 generalize hg1:pull τ D g=g1;have r1:∀id,D id→g1.ρ id=g.ρ (τ id):=fun id hd=>by rw[←hg1];exact wR hd
 have r2:∀id,¬D id→g1.ρ id=none:=fun id hd=>by rw[←hg1];exact if_neg hd
 have Qq:∀id o,(bU m.inp .nil).get id=some o→id∈m.inp.map (·.1)∧(id,o)∈m.inp:=fun id o ho=>by
  by_cases hi:id∈m.inp.map (·.1)
  ·obtain ⟨o',h1,h2⟩:=kW (t:=.nil) hi;rw[ho] at h1;cases h1;exact ⟨hi,h2⟩
  ·rw[hY hi] at ho;cases ho
 have hE1:bu E g1:=by rw[←hg1];exact ⟨hE.ty,hE.fn,hE.lt,hE.eq,hE.mix,hE.sz⟩
 have hr1:HR g1 (bU m.inp .nil).get w:=by
  refine ⟨fun id o ho=> ?_,fun i k x y b c d hx hy e1 e2=> ?_⟩
  ·obtain ⟨s1,s2⟩:=Qq id o ho;obtain ⟨b,c,q1,q2,q3⟩:=hr.ob _ _ (sR inj LU id o (hDS id s1) ho);refine ⟨b,c,(r1 id (hDS id s1)).trans q1,q2,?_⟩;rw[←hg1];exact OR.pull hDS q3 (y7 f5 id o s2)
  ·obtain ⟨s1,_⟩:=Qq i x hx;obtain ⟨t1,_⟩:=Qq k y hy;rw[r1 i (hDS i s1)] at e1;rw[r1 k (hDS k t1)] at e2;exact inj i k (hDS i s1) (hDS k t1) (hr.inj _ _ _ _ _ _ _ (sR inj LU i x (hDS i s1) hx) (sR inj LU k y (hDS k t1) hy) e1 e2)
 refine CallsIn.mono (sem j g1 w us hE1 hr1 (fun x hx=> ?_) (by rw[←hg1];exact VRs.pull hDS hus f4)) ?_
 ·rw[r1 x (.inr hx),thi x hx];exact hfr _ (Nat.le_add_right _ _)
 rintro e w' ⟨r,g1',rfl,h1,h2,h3,h4,h5⟩;let g':Gh:={g with ρ:=fun y=>if y<N then g.ρ y else g1'.ρ (m.nx+(y-N)),lim:=fun y=>if y<N then g.lim y else g1'.lim (m.nx+(y-N)),et:=fun y=>if y<N then g.et y else g1'.et (m.nx+(y-N))}
 have gη:g1.η=g.η:=by rw[←hg1];rfl
 have gsz:g1.sz=g.sz:=by rw[←hg1];rfl
 have IN:∀id p,g1'.ρ id=some p→D id:=fun id p hp=>by
  by_cases hx:m.nx≤id
  ·exact .inr hx
  ·rw[h4 id (by omega)] at hp
   by_cases hd:D id
   ·exact hd
   ·rw[r2 id hd] at hp;cases hp
 have push:Ed τ g1' g':=by
  refine ⟨by show g.η=g1'.η;rw[h3.le.η,gη],by show g.sz=g1'.sz;rw[h3.le.sz,gsz],fun id p hp=> ?_,fun id p hp=> ?_,fun id p hp=> ?_⟩
  ·show (if τ id<N then g.ρ (τ id) else g1'.ρ (m.nx+(τ id-N)))=some p
   rcases IN id p hp with hd|hd
   ·rw[if_pos (tlo id hd),←r1 id (.inl hd),←h4 id (slo id hd)];exact hp
   ·rw[thi id hd,if_neg (by omega),show m.nx+(N+(id-m.nx)-N)=id by omega];exact hp
  ·show (if τ id<N then g.lim (τ id) else g1'.lim (m.nx+(τ id-N)))=_
   rcases IN id p hp with hd|hd
   ·rw[if_pos (tlo id hd)];have hp':g1.ρ id=some p:=by rw[←h4 id (slo id hd)];exact hp
    rw[h3.le.lim id p hp',←hg1];rfl
   ·rw[thi id hd,if_neg (by omega),show m.nx+(N+(id-m.nx)-N)=id by omega]
  ·show (if τ id<N then g.et (τ id) else g1'.et (m.nx+(τ id-N)))=_
   rcases IN id p hp with hd|hd
   ·rw[if_pos (tlo id hd)];have hp':g1.ρ id=some p:=by rw[←h4 id (slo id hd)];exact hp
    rw[h3.le.et id p hp',←hg1];rfl
   ·rw[thi id hd,if_neg (by omega),show m.nx+(N+(id-m.nx)-N)=id by omega]
 have Dall:∀p∈m.out++m.inp,D p.1:=fun p hp=>(List.mem_append.1 hp).elim (Dout p) (LU p)
 have Yo:∀id o,(bU m.out (bU m.inp .nil)).get id=some o→sG o=true:=fun id o ho=>by
  rw[←yU] at ho;by_cases hi:id∈(m.out++m.inp).map (·.1)
  ·obtain ⟨o',q1,q2⟩:=kW (t:=.nil) hi;rw[ho] at q1;cases q1;rcases List.mem_append.1 q2 with q2|q2
   ·exact f6 _ q2
   ·exact W3 (y7 f5 _ _ q2)
  ·rw[hY hi] at ho;cases ho
 have back:∀y o',(bU (g9 τ m.out) (bU (g9 τ m.inp) .nil)).get y=some o'→∃id o,D id∧y=τ id∧(bU m.out (bU m.inp .nil)).get id=some o∧o'=mL τ o:=fun y o' hy=>by
  rw[ee] at hy;obtain ⟨id,o,q1,_,q3,q4,q5⟩:=NJ inj Dall y o' hy;rw[yU] at q4;exact ⟨id,o,q1,q3,q4,q5⟩
 have ρ':∀id,D id→g'.ρ (τ id)=g1'.ρ id:=fun id hd=>by
  cases hp:g1'.ρ id with
  |some p=>exact push.ρ id p hp
  |none=>
   show (if τ id<N then g.ρ (τ id) else g1'.ρ (m.nx+(τ id-N)))=none
   rcases hd with hd|hd
   ·rw[if_pos (tlo id hd),←r1 id (.inl hd),←h4 id (slo id hd)];exact hp
   ·rw[thi id hd,if_neg (by omega),show m.nx+(N+(id-m.nx)-N)=id by omega];exact hp
 have abG:∀b,Ee g1 (bU m.inp .nil).get b→Ee g (bU (g9 τ m.inp) .nil).get b:=fun b ⟨id,o,c,z1,z2⟩=>by
  obtain ⟨s1,_⟩:=Qq id o z1;rw[r1 id (hDS id s1)] at z2;exact ⟨τ id,_,c,sR inj LU id o (hDS id s1) z1,z2⟩
 refine ⟨r,g',rfl,h1.push push,⟨fun y o' hy=> ?_,fun i k x y b c d hx hy e1 e2=> ?_⟩,⟨h3.os,h3.tape,h3.output,h3.size,⟨rfl,rfl,fun y p hy=> ?_,fun y p hy=> ?_,fun y p hy=> ?_,rfl⟩,fun b hb hn=>h3.old b hb (fun hc=>hn (abG b hc)),fun b hb hm=> ?_⟩,fun y hy=>if_pos hy,fun y hy=> ?_⟩
 ·obtain ⟨id,o,q1,rfl,q3,rfl⟩:=back y o' hy;obtain ⟨b,c,z1,z2,z3⟩:=h2.ob id o q3;exact ⟨b,c,(ρ' id q1).trans z1,z2,z3.push push z1 (Yo id o q3)⟩
 ·obtain ⟨i',x',q1,rfl,q3,rfl⟩:=back i x hx;obtain ⟨k',y',p1,rfl,p3,rfl⟩:=back k y hy;rw[ρ' i' q1] at e1;rw[ρ' k' p1] at e2;rw[h2.inj i' k' x' y' b c d q3 p3 e1 e2]
 ·have hlt:y<N:=by
   by_cases hy':y<N
   ·exact hy'
   ·rw[hfr y (by omega)] at hy;cases hy
  exact (if_pos hlt).trans hy
 ·have hlt:y<N:=by
   by_cases hy':y<N
   ·exact hy'
   ·rw[hfr y (by omega)] at hy;cases hy
  exact if_pos hlt
 ·have hlt:y<N:=by
   by_cases hy':y<N
   ·exact hy'
   ·rw[hfr y (by omega)] at hy;cases hy
  exact if_pos hlt
 ·refine abG b (h3.own b hb ?_);obtain ⟨y,o',c,z1,z2⟩:=hm;obtain ⟨id,o,q1,rfl,q3,rfl⟩:=back y o' z1;rw[ρ' id q1] at z2;exact ⟨id,o,c,q3,z2⟩
 ·have hy:N+(m.nx'-m.nx)≤y:=hy;show (if y<N then g.ρ y else g1'.ρ (m.nx+(y-N)))=none
  rw[if_neg (by omega)]
  exact h5 _ (by omega)
theorem PR (hS:jM E) {k:FuncId} {fi aa ca:List SV} {h:Hs} {m:Mo} (hm:jr k (fi++aa++ca) h E.fE=some m):Sound E (.call (.fn (.func k) fi ca) aa h) (.res m.v (nw m h)):=by
 obtain ⟨m0,iS,hb⟩:=yx hm;obtain ⟨τ,hτ,hk,em,hok,has,hin⟩:=Te hb;have hmo:ow E m:=by rw[em,hτ];exact (hS.fE m0 iS).ren (by rw[←hτ];exact hok)
 have hnx:h.nx=m.nx:=by rw[em];rfl
 obtain rfl:m.k=k:=by rw[em];exact hk
 have has:=mD _ _ has;obtain ⟨hgo,fit,sem⟩:=hmo;obtain ⟨f1,f2,f3,_⟩:=fit;unfold nw;have oid:∀x,x∈m.out.map (·.1)→x<m.nx'∧(m.nx≤x∨x∈m.inp.map (·.1)):=fun x hx=>by
  obtain ⟨p,hp,rfl⟩:=List.mem_map.1 hx;exact f2 p hp
 have live:∀x,x∈m.inp.map (·.1)→∃o,h.hp.get x=some o∧(bU m.inp .nil).get x=some o:=fun x hx=>by
  obtain ⟨o,h1,h2⟩:=kW (t:=.nil) hx;exact ⟨o,DB hin x o h2,h1⟩
 refine uj (fun hbd=>⟨⟨Nat.le_trans (Nat.le_of_eq hnx) f3,fun x hx=> ?_,fun x hx hn=> ?_,fun x hx=>List.mem_append_right _ hx,fun x hx hn=> ?_⟩,fun j g w u us hE hr hfr hu hus=> ?_⟩)
 ·show (bU m.out h.hp).get x=none;rw[hY (fun hc=>by have:=(oid x hc).1;have:m.nx'≤x:=hx;omega)]
  have:m.nx'≤x:=hx;exact hbd x (show h.nx≤x by omega)
 ·show (bU m.out h.hp).get x=_;exact hY (fun hc=>hn (List.mem_append_left _ hc))
 ·show (bU m.out h.hp).get x=none;rw[hY (fun hc=> ?_)]
  ·exact hn
  rcases (oid x hc).2 with h1|h1
  ·omega
  ·obtain ⟨o,h2,_⟩:=live x h1;rw[hn] at h2;cases h2
 cases hu with
 | @fn _ first cf _ _ hv1 hv2=>
 have fw:VRs g (first.toList++us++cf.toList) m.aa:=by rw[←has];exact (hv1.append hus).append hv2
 have jn:first++us.toArray++cf=(first.toList++us++cf.toList).toArray:=by apply Array.ext';simp
 refine ⟨{target:=.fn (.func m.k) cf,args:=first++us.toArray},rfl,.inl ⟨m.k,(first.toList++us++cf.toList).toArray,?_,?_⟩⟩
 ·show (callFunc m.k (first++us.toArray++cf)).run E.P w=_
  rw[jn];exact zh hgo _ w
 have mh:∀x o,(bU m.inp .nil).get x=some o→h.hp.get x=some o:=fun x o hx=>by
  by_cases hi:x∈m.inp.map (·.1)
  ·obtain ⟨o',h1,h2⟩:=live x hi;rw[hx] at h2;cases h2;exact h1
  ·rw[hY hi] at hx;cases hx
 refine CallsIn.mono (sem j g w _ hE (hr.sub mh) (fun x hx=>hfr x (by omega)) fw) ?_
 rintro e w' ⟨r,g',rfl,h1,h2,h3,h4,h5⟩;have D0:∀x,(decide (x∈m.out.map (·.1))||decide (x∈m.inp.map (·.1)))=false→(bU m.out (bU m.inp .nil)).get x=none∧(bU m.inp .nil).get x=none:=fun x hx=>by
  rw[Bool.or_eq_false_iff,decide_eq_false_iff_not,decide_eq_false_iff_not] at hx;have e:(bU m.inp .nil).get x=none:=by rw[hY hx.2];rfl
  exact ⟨by rw[hY hx.1];exact e,e⟩
 obtain ⟨s1,s2⟩:=A6 (D:=fun x=>decide (x∈m.out.map (·.1))||decide (x∈m.inp.map (·.1))) hr mh (fun x hx=>hfr x (by omega)) h2 h3 h4 (fun x hx _=>by rw[(D0 x hx).1,(D0 x hx).2]) (fun x hx _=>(D0 x hx).1)
 have ee:(bU m.out h.hp).get=gg (fun x=>decide (x∈m.out.map (·.1))||decide (x∈m.inp.map (·.1))) (bU m.out (bU m.inp .nil)).get h.hp.get:=funext (YN hin)
 exact ⟨r,rfl,g',h1,by rw[ee];exact s1,by rw[ee];exact s2,fun x hx=>h4 x (by omega),h5⟩
theorem E3 (a b:ByteArray):Lib.compareBytes a.data.toList b.data.toList=qu a b:=by
 have key:∀(l m:List UInt8),Lib.compareBytes l m=if pG l m=true then -1 else if jS l m=true then 0 else 1:=by
  intro l;induction l with
  |nil=>intro m;cases m<;>simp[Lib.compareBytes,pG,jS]
  |cons x l ih=>
   intro m;cases m with
   |nil=>simp[Lib.compareBytes,pG,jS]
   |cons y m=>
    unfold Lib.compareBytes pG jS;rw[ih m,aC,aC,ble_eq,beq_eq];have h1:(x<y)↔x.toNat+1≤y.toNat:=by rw[UInt8.lt_iff_toNat_lt];omega
    have h2:(y<x)↔y.toNat<x.toNat:=UInt8.lt_iff_toNat_lt;by_cases hxy:x<y
    ·simp[hxy,h1.1 hxy]
    ·by_cases hyx:y<x
     ·have a1:¬(x.toNat+1≤y.toNat):=fun h=>hxy (h1.2 h)
      have a2:¬(x.toNat=y.toNat):=fun h=>by have:=h2.1 hyx;omega
      simp[hxy,hyx,a1,a2]
     ·have a1:¬(x.toNat+1≤y.toNat):=fun h=>hxy (h1.2 h)
      have a3:¬(y.toNat<x.toNat):=fun h=>hyx (h2.2 h)
      have a2:x.toNat=y.toNat:=by omega
      have a4:¬(y.toNat+1≤y.toNat):=by omega
      simp[hxy,hyx,a2,a4]
 rw[key];unfold qu;rw[aC,aC]
theorem Xe (hS:jM E) {k:FuncId} {fn:Func} {fi aa ca:List SV} {h:Hs} (hfn:E.fn.get k=some fn) (fS:fn.body=none):Sound E (.call (.fn (.func k) fi ca) aa h) (Ks fn (fi++aa++ca) h):=by
 generalize hl:fi++aa++ca=l;unfold Ks;split;rotate_left
 ·trivial
 rename_i x y;split;rotate_left
 ·trivial
 rename_i s1 hs1;split;rotate_left
 ·trivial
 rename_i s2 hs2;obtain rfl:=fj hs1;obtain rfl:=fj hs2;rw[aC];split;rotate_left
 ·trivial
 rename_i A1;refine uj (fun hb=>⟨Fac.refl hb,fun m g w u us hE hr hnx hu hus=> ?_⟩)
 cases hu with
 | @fn _ first cf _ _ hv1 hv2=>
 have fw:VRs g (first.toList++us++cf.toList) [.str s1,.str s2]:=by rw[←hl];exact (hv1.append hus).append hv2
 have jn:first++us.toArray++cf=(first.toList++us++cf.toList).toArray:=by apply Array.ext';simp
 obtain ⟨v1,v2,e,h1,h2⟩:=pq fw;rw[e] at jn;cases h1;cases h2;obtain ⟨e1,e2⟩:=hS.ext k fn hfn fS A1;refine ⟨{target:=.fn (.func k) cf,args:=first++us.toArray},rfl,.inr (.inr ⟨.int .i64 (Lib.compareBytes s1.data.toList s2.data.toList),w,?_,_,rfl,g,.int _ _ ?_,hr,Fr.refl _ _ _,fun _ _=>rfl,hnx⟩)⟩
 ·show (callFunc k (first++us.toArray++cf)).run E.P w=_
  rw[jn,run_callFunc_extern (hS.fn k fn hfn).1 (by
   have:fn.name= "internal/bytealg.abigen_runtime_cmpstring" :=by simpa using A1
   rw[this];decide) (by rw[fS];rfl) e1 e2,Lib.run_compareString]
  rfl
 ·rw[E3];rfl
theorem zT (hS:jM E) {rec:Job→Out} (cn:∀j,Sound E j (rec j)) (fv:SV) (aa:List SV) (h:Hs):Sound E (.call fv aa h) (acV fv E rec aa h):=by
 cases fv with
 |yld l=>exact Mw cn l aa h
 |fn f fi ca=>
  cases f with
  |func k=>
   show Sound E _ (@Option.rec SV (fun _=>Out) (@Option.rec Mo (fun _=>Out) (sel (cc k E.stop) (.gM k (fi++aa++ca) h) (sel (fM E k (fi++aa++ca)) (.res (.tup []) h) (qj E rec k (E.fn.get k) (fi++aa++ca) h))) (fun m=>.res m.v (nw m h)) (jr k (fi++aa++ca) h E.fE)) (fun v=>.res v h) (iV E k (fi++aa++ca)))
   cases hd:iV E k (fi++aa++ca) with
   |some v=>exact Rf hS hd
   |none=>
    show Sound E _ (@Option.rec Mo (fun _=>Out) (sel (cc k E.stop) (.gM k (fi++aa++ca) h) (sel (fM E k (fi++aa++ca)) (.res (.tup []) h) (qj E rec k (E.fn.get k) (fi++aa++ca) h))) (fun m=>.res m.v (nw m h)) (jr k (fi++aa++ca) h E.fE))
    cases hm:jr k (fi++aa++ca) h E.fE with
    |some m=>exact PR hS hm
    |none=>
    show Sound E _ (sel (cc k E.stop) (.gM k (fi++aa++ca) h) (sel (fM E k (fi++aa++ca)) (.res (.tup []) h) (qj E rec k (E.fn.get k) (fi++aa++ca) h)));rw[aC];split
    ·trivial
    rw[aC];split
    ·rename_i ht;exact O0 hS ht
    cases hfn:E.fn.get k with
    |none=>trivial
    |some fn=>
     show Sound E _ (Bz E rec k fn (fi++aa++ca) h);unfold Bz;cases fS:fn.body with
     |none=>exact Xe hS hfn fS
     |some c=>
      show Sound E _ (sel (Nat.ble (fi++aa++ca).length fn.ntmps) (sel (nS fn.name) (.fail "NumGoroutine") (w7 (cc k E.join) h.nx (vi E rec fn h.nx h.lg (rec (.code fn.ntmps c (setArgs (fi++aa++ca) 0 .nil) [] ⟨h.hp,h.nx,[]⟩))))) (.fail "args"));rw[aC,aC];split;rotate_left
      ·trivial
      rename_i hlen;split
      ·trivial
      rename_i zf;exact MZ (Xb hS cn hfn fS (fun hc=>zf (by rw[hc];decide)) ((aX _ _).1 hlen))
  |_=>trivial
 |_=>trivial
theorem u9 (hS:jM E):∀(n:Nat) (j:Job),Sound E j (run E n j)
 |0,j=>by cases j<;>trivial
 |n+1,j=>by
  have ih:=u9 hS n;show Sound E j (step E (run E n) j);cases j with
  |code nt c tm mk h=>exact zS hS ih nt c tm mk h
  |ops nt all l tm mk h=>exact CE ih nt all l tm mk h
  |draw nt W all base i M prev l tm h=>exact zR ih nt W all base i M prev l tm h
  |call fv aa h=>exact zT hS ih fv aa h
end
section
variable {E:Env} {g:Gh} {f:Hf} {w:World}
theorem ZM (g:Gh) (w:World):HR g (Tr.nil:Hp).get w:=⟨fun id o h=>(by cases h),fun i j x y b c d h=>(by cases h)⟩
theorem UF (hS:jM E) {n:Nat} {k:FuncId} {aa:List SV} {v:SV} {h':Hs} (ez:run E n (.call (.fn (.func k) [] []) aa ⟨.nil,0,[]⟩)= .res v h') (hgo:tW E (.fn (.func k) [] [])=true) (hE:bu E g) (hρ:∀x,g.ρ x=none)
  {us:List Value} (hus:VRs g us aa) (m:Nat) (w:World):CallsIn Fence.wide m E.P k us.toArray w fun e w'=>∃r g',e= .returned r∧VR g' r v∧HR g' h'.hp.get w'∧Fr g (fun _=>none) w g' h'.hp.get w':=by
 have hs:=u9 hS n (.call (.fn (.func k) [] []) aa ⟨.nil,0,[]⟩);rw[ez] at hs;have hb:Bd ⟨.nil,0,[]⟩:=fun x _=>rfl
 obtain ⟨_,_,sem⟩:=(show Bd ⟨.nil,0,[]⟩→_ from hs) hb;obtain ⟨k',fi,ca,fn,e1,hfn,fS⟩:=rp hgo;cases e1;obtain ⟨d,hd1,hd2⟩:=sem.one m g w (.func (.func k) #[] #[]) us hE (ZM g w) (fun x _=>hρ x) (.fn .nil .nil) hus
 have hd:d={target:=.fn (.func k) #[],args:= #[]++us.toArray}:=by
  rw[pW] at hd1;cases hd1;rfl
 subst hd;have oR:∀(args:Array Value) (w:World),(invoke (.fn (.func k) #[]) args).run E.P w=(callFunc k (args++ #[])).run E.P w:=fun _ _=>rfl
 rcases gu (hS.fn k fn hfn).1 fS (#[]++us.toArray++ #[]) w with ⟨hc,_⟩|hc
 ·rcases hd2 with ⟨k',as',q1,q2⟩|⟨l,k',t',as',b',q1,_⟩|⟨r,w',q1,_⟩<;>(rw[oR,hc] at q1;cases q1)
 ·rcases hd2 with ⟨k',as',q1,q2⟩|⟨l,k',t',as',b',q1,_⟩|⟨r,w',q1,_⟩
  ·rw[oR,hc] at q1;cases q1;have e: #[]++us.toArray++ #[]=us.toArray:=by simp
   rw[e] at q2;refine CallsIn.mono q2 ?_;rintro e w' ⟨r,rfl,g',h1,h2,h3,_,_⟩;exact ⟨r,g',rfl,h1,h2,h3⟩
  ·rw[oR,hc] at q1;cases q1
  ·rw[oR,hc] at q1;cases q1
def gh0 (P:Program) (η:Nat→Int):Gh:=⟨η,P.cellsOf,fun _=>none,fun _=>0,fun _=>0,fun _=>none⟩
theorem Fr.old0 {g g':Gh} {h':Hf} {w w':World} (h:Fr g (fun _=>none) w g' h' w'):∀b,b<w.heap.size→w'.heap[b]? =w.heap[b]? :=
 fun b hb=>h.old b hb (fun ⟨id,o,c,h1,_⟩=>by cases h1)
theorem Fr.still {g g':Gh} {h':Hf} {w w':World} (h:Fr g (fun _=>none) w g' h' w'):BJ w w':=⟨h.os,h.tape,h.output,h.size,h.old0⟩
theorem aep (hS:jM E) (hE:bu E (gh0 E.P fun _=>0)) {n:Nat} {k:FuncId} {b:Bool} {h':Hs} (ez:run E n (.call (.fn (.func k) [] []) [] ⟨.nil,0,[]⟩)= .res (.bool b) h') (hgo:tW E (.fn (.func k) [] [])=true) (zf:∀fn,E.fn.get k=some fn→nS fn.name=false):BT E.P k (.bool b):=by
 obtain ⟨k',fi,ca,fn,e1,hfn,fS⟩:=rp hgo;cases e1;refine ⟨⟨fn,(hS.fn k fn hfn).1,fS,fun hc=>by have:=zf fn hfn;rw[hc] at this;revert this;decide⟩,fun m w=> ?_⟩
 refine CallsIn.mono (UF hS ez hgo hE (fun _=>rfl) .nil m w) ?_
 rintro e w' ⟨r,g',rfl,h1,h2,h3⟩;refine ⟨r,rfl,fun g=> ?_,h3.still⟩
 cases h1;exact .bool b
theorem ow.mono {E E':Env} {m:Mo} (h:ow E m) (hP:E'.P=E.P) (hE:∀g,bu E' g→bu E g):ow E' m:=by
 obtain ⟨h1,h2,h3⟩:=h;refine ⟨by rw[hP];exact h1,h2,fun j g w us he hr hf hu=>by rw[hP];exact h3 j g w us (hE g he) hr hf hu⟩
def jL {α:Type} (Q:Nat→α→Prop):Tr α→(Nat→Nat)→Prop
 | .nil,_=>True
 | .node l v r,φ=>(match v with|none=>True|some x=>Q (φ 0) x)∧jL Q l (fun j=>φ (2*j+1))∧jL Q r (fun j=>φ (2*j+2))
theorem jL.get {α:Type} {Q:Nat→α→Prop}:∀{t:Tr α} {φ:Nat→Nat},jL Q t φ→∀i x,t.get i=some x→Q (φ i) x
 | .nil,_,_,i,x,h=>by cases h
 | .node l v r,φ,⟨h1,h2,h3⟩,i,x,h=>by
  rw[Tr.qh] at h;split at h
  ·rename_i e;subst e;subst h;exact h1
  ·split at h
   ·rename_i e1 e2;have:=jL.get h2 _ x h;have e:2*(i / 2)+1=i:=by omega
    simp only[e] at this;exact this
   ·rename_i e1 e2;have:=jL.get h3 _ x h;have e:2*(i / 2-1)+2=i:=by omega
    simp only[e] at this;exact this
def CC:TypeDesc→UD
 | .bool=>.bool
 | .int k=>.int k
 | .string=>.string
 | .pointer _=>.pointer
 | .slice e=>.slice e
 | .array n e=>.array n e
 | .map k e=>.map k e
 | .struct fs=>.struct (fs.toList.map fun f=>FL.mk f.type f.offset (!(f.name== "_")))
 | .func _ _ _=>.func
 | .interface _=>.interface
 |_=>.other
def AQ (P:Program):List Field→Bool
 | []=>true
 |f::fs=>(P.info? f.type).isSome&&AQ P fs
def aij (P:Program):TypeDesc→Bool
 | .struct fs=>AQ P fs.toList
 | .bool| .int _| .string| .pointer _| .slice _| .array _ _| .map _ _| .func _ _ _| .interface _=>true
 |_=>false
def BH:List Value→Bool
 | []=>true
 |v::vs=>v.oneCell'&&BH vs
def JX:Value→Bool
 | .agg _=>true
 |_=>false
def aak (agg:Bool) (size:Nat) (z:Value):Bool:=BH z.cells.toList&&sel agg (JX z&&Nat.beq z.cells.toList.length size) z.oneCell'
def O1 (P:Program) (t:TypeId):Option TI:=
 aF (P.underlying t) (P.info? t) fun d f=>ai f.zero fun z=>sel (aij P d&&aak (eU (CC d)) f.size z) (some ⟨CC d,f.size,f.bytes,ig z.cells.toList,f.comparable⟩) none
theorem yr {P:Program}:∀{fs:List Field},AQ P fs=true→∀f∈fs,(P.info? f.type).isSome=true
 | [],_,f,hf=>by simp at hf
 |x::fs,h,f,hf=>by
  unfold AQ at h;rw[Bool.and_eq_true] at h;rcases List.mem_cons.1 hf with rfl|hf
  ·exact h.1
  ·exact yr h.2 f hf
theorem BG (g:Gh):∀{vs:List Value},BH vs=true→VCs g vs (ig vs)
 | [],_=>.nil
 |v::vs,h=>by
  unfold BH at h;rw[Bool.and_eq_true] at h;exact .cons h.1 (mv g v) (BG g h.2)
theorem rA:∀(vs:List Value),(ig vs).length=vs.length
 | []=>rfl
 |v::vs=>by show (kJ v::ig vs).length=_;simp[rA vs]
theorem Tg {P : Program} {t : TypeId} {i : TI} (h : O1 P t = some i) : qC P t i := by
  obtain ⟨d, fi, hd, hf, h⟩ := ay h
  obtain ⟨z, hz, h⟩ := af h
  obtain ⟨hc, h⟩ := av h
  cases h
  rw [Bool.and_eq_true] at hc
  obtain ⟨hdb, hzb⟩ := hc
  unfold aak at hzb
  rw [Bool.and_eq_true] at hzb
  obtain ⟨ha, hzb⟩ := hzb
  refine ⟨?_, fi, z, hf, rfl, rfl, rfl, hz, ⟨fun g => BG g ha, fun qf => ?_, fun qf => ?_⟩, fun qf => ?_⟩
  · show qH P t (CC d)
    cases d <;> first
      | exact hd
      | exact ⟨_, hd⟩
      | exact ⟨_, _, _, hd⟩
      | (refine ⟨_, hd, ?_, yr hdb⟩
         refine List.map_congr_left fun f _ => ?_
         by_cases hn : f.name = "_" <;> simp [hn])
      | (cases hdb; done)
  · have qf : eU (CC d) = true := qf
    rw [qf] at hzb
    have hzb : (JX z && Nat.beq z.cells.toList.length fi.size) = true := hzb
    rw [Bool.and_eq_true] at hzb
    cases z <;> first | exact ⟨_, rfl⟩ | (cases hzb.1; done)
  · have qf : eU (CC d) = false := qf
    rw [qf] at hzb
    exact hzb
  · have qf : eU (CC d) = true := qf
    rw [qf] at hzb
    have hzb : (JX z && Nat.beq z.cells.toList.length fi.size) = true := hzb
    rw [Bool.and_eq_true] at hzb
    show (ig z.cells.toList).length = fi.size
    rw [rA]
    exact (beq_iff _ _).1 hzb.2
end
end Go.Sim
namespace Go.Sim
section
def vn (fn:Func):Bool:=fn.body.isSome|| !(fn.name== "internal/bytealg.abigen_runtime_cmpstring")
def akQ (P:Program) (k:Nat) (fn:Func):Prop:=P.funcs[k]? =some fn∧QM fn=true∧(vn fn=true∨(Extern.findNext fn=none∧Extern.find fn=some Extern.BytealgCompare.compare))
def akN (P:Program) (t:Nat) (i:TI):Prop:=O1 P t=some i
structure xw (P:Program) (ty:Tr TI) (fn:Tr Func):Prop where
 ty:jL (akN P) ty id
 fn:jL (akQ P) fn id
 mix:P.follows .mixedOrders=true
variable {P:Program} {ty:Tr TI} {fn:Tr Func}
theorem xw.envS (h:xw P ty fn) {lt eq:List (SI×SI×Bool)} {done:List (Nat×SV)} {join:List Nat} {jZ:List (Nat×Nat)} {fE:List Mo} {stop:List Nat} (hd:∀k v,ru k done=some v→BT P k v) (ht:∀k t,zP k t jZ=true→XA P k t) (hm:∀m∈fE,ow ⟨P,ty,fn,lt,eq,done,join,jZ,fE,stop⟩ m):jM ⟨P,ty,fn,lt,eq,done,join,jZ,fE,stop⟩:=by
 refine ⟨fun k fn hk=> ?_,fun k fn hk hb hn=> ?_,h.mix,fun k v hk=>hd k v hk,ht,hm⟩
 ·obtain ⟨h1,h2,_⟩:=jL.get h.fn k fn hk;exact ⟨h1,h2⟩
 ·obtain ⟨_,_,h3⟩:=jL.get h.fn k fn hk;rcases h3 with h3|h3
  ·unfold vn at h3;rw[hb,hn] at h3;cases h3
  ·exact h3
theorem xw.acM (h:xw P ty fn) {lt eq:List (SI×SI×Bool)} {done:List (Nat×SV)} {join:List Nat} {jZ:List (Nat×Nat)} {fE:List Mo} {stop:List Nat} {η:Nat→Int} (hlt:∀a b r,(a,b,r)∈lt→decide (a.ev η<b.ev η)=r) (heq:∀a b r,(a,b,r)∈eq→decide (a.ev η=b.ev η)=r):
  bu ⟨P,ty,fn,lt,eq,done,join,jZ,fE,stop⟩ (gh0 P η):=
 ⟨fun t i hi=>Tg (jL.get h.ty t i hi),fun f x hx=>(jL.get h.fn f x hx).1,hlt,heq,h.mix,fun _=>rfl⟩
theorem ow.facts {lt eq lt' eq':List (SI×SI×Bool)} {done aii:List (Nat×SV)} {join ahK:List Nat} {jZ ahp:List (Nat×Nat)} {fE ahD:List Mo} {stop ahs:List Nat} {m:Mo} (h:ow ⟨P,ty,fn,lt,eq,done,join,jZ,fE,stop⟩ m) (hl:∀x∈lt,x∈lt') (he:∀x∈eq,x∈eq'):
  ow ⟨P,ty,fn,lt',eq',aii,ahK,ahp,ahD,ahs⟩ m:=
 h.mono rfl fun g k=>⟨k.ty,k.fn,fun a b r hm=>k.lt a b r (hl _ hm),fun a b r hm=>k.eq a b r (he _ hm),k.mix,k.sz⟩
def Yh (o:Out):Option Bool:=match o with| .bN [⟨false,.bool b,_⟩]=>some b|_=>none
theorem UK {o:Out} {b:Bool} (h:Yh o=some b):∃h',o= .res (.bool b) h':=by
 unfold Yh at h;split at h
 ·cases h;exact ⟨_,rfl⟩
 ·cases h
def why (o:Out):String:=match o with| .bN [⟨false,.bool b,_⟩]=>(match b with|true=> "true" |false=> "false")| .bN [_]=> "res" | .bN _=> "ress" | .fail s=>s|_=> "other"
end
end Go.Sim
namespace Go.Sim
open Go.RowKit
structure Still (w w':World):Prop where
 os:w'.os=w.os
 output:w'.output=w.output
 heap:∀b,b<w.heap.size→w'.heap[b]? =w.heap[b]?
theorem Still.kept {w w':World} (h:Still w w') (may:MemPlace→Prop):w.keptBut w' may:=by
 refine ⟨h.os,h.output,fun i hi=> ?_⟩
 rw[h.heap i hi];cases hc:w.heap[i]? with
 |none=>rfl
 |some o=>cases o<;>first|exact ⟨rfl,rfl,rfl,fun _ _=>rfl⟩|exact .inr ⟨rfl,rfl⟩|rfl
end Go.Sim
namespace Go.Sim
def alt {α:Type} (l:List α):Bool→List α:= @List.rec α (fun _=>Bool→List α) (fun _=> []) (fun x _ ih b=>sel b (x::ih false) (ih true)) l
def Hv {α:Type} (d:Nat):List (Option α)→Tr α:= @Nat.rec (fun _=>List (Option α)→Tr α) (fun _=>.nil) (fun _ ih l=> @List.rec (Option α) (fun _=>Tr α) .nil (fun x xs _=>.node (ih (alt xs true)) x (ih (alt xs false))) l) d
theorem xr {α:Type}:∀(l:List α) (j:Nat),(alt l true)[j]? =l[2*j]? ∧(alt l false)[j]? =l[2*j+1]?
 | [],j=>⟨by simp[alt],by simp[alt]⟩
 |x::l,j=>by
  have h1:alt (x::l) true=x::alt l false:=rfl;have h2:alt (x::l) false=alt l true:=rfl;rw[h1,h2];constructor
  ·cases j with
   |zero=>rfl
   |succ j=>rw[List.getElem?_cons_succ,(xr l j).2,show 2*(j+1)=(2*j+1)+1 by omega,List.getElem?_cons_succ]
  ·rw[(xr l j).1,List.getElem?_cons_succ]
theorem tv {α:Type} {Q:Nat→α→Prop}:∀(d:Nat) (l:List (Option α)) (φ:Nat→Nat),(∀i x,l[i]? =some (some x)→Q (φ i) x)→jL Q (Hv d l) φ
 |0,_,_,_=>trivial
 |d+1,[],_,_=>trivial
 |d+1,x::xs,φ,H=>by
  show jL Q (.node (Hv d (alt xs true)) x (Hv d (alt xs false))) φ;unfold jL;refine ⟨?_,tv d _ _ fun i y h=> ?_,tv d _ _ fun i y h=> ?_⟩
  ·cases x with
   |none=>trivial
   |some x=>exact H 0 x rfl
  ·rw[(xr xs i).1] at h;exact H (2*i+1) y (by rw[List.getElem?_cons_succ];exact h)
  ·rw[(xr xs i).2] at h;exact H (2*i+2) y (by rw[show 2*i+2=(2*i+1)+1 from rfl,List.getElem?_cons_succ];exact h)
def aal (P:Program) (n:Nat):Tr TI:=Hv 10 ((List.range n).map (O1 P))
def acH (P:Program):Tr Func:=Hv 10 (P.funcs.toList.map some)
def agM (e:Nat) (l:List Bool):Bool:= @List.rec Bool (fun _=>Nat→Bool) (fun _=>true) (fun b _ ih k=>sel (b||Nat.beq k e) (ih (k+1)) false) l 0
theorem BI {e:Nat}:∀(l:List Bool) (k i:Nat),(@List.rec Bool (fun _=>Nat→Bool) (fun _=>true) (fun b _ ih k=>sel (b||Nat.beq k e) (ih (k+1)) false) l k)=true→l[i]? =some false→k+i=e
 | [],k,i,_,h=>by simp at h
 |b::l,k,i,h,hi=>by
  have h:sel (b||Nat.beq k e) (@List.rec Bool (fun _=>Nat→Bool) (fun _=>true) (fun b _ ih k=>sel (b||Nat.beq k e) (ih (k+1)) false) l (k+1)) false=true:=h
  cases i with
  |zero=>
   have:b=false:=by simpa using hi
   subst this;cases hk:Nat.beq k e with
   |true=>exact Nat.eq_of_beq_eq_true hk
   |false=>rw[hk] at h;cases h
  |succ i=>
   cases hb:(b||Nat.beq k e) with
   |false=>rw[hb] at h;cases h
   |true=>
    rw[hb] at h;have:=BI l (k+1) i h (by simpa using hi)
    omega
theorem aeO {P:Program} (n e:Nat) {fe:Func} (h0:(P.funcs.toList.all fun f=>QM f)=true) (h1:agM e (P.funcs.toList.map vn)=true) (he:P.funcs[e]? =some fe) (h2:Extern.findNext fe=none) (h3:Extern.find fe=some Extern.BytealgCompare.compare) (hm:P.follows .mixedOrders=true):xw P (aal P n) (acH P):=by
 refine ⟨tv _ _ _ fun i x h=> ?_,tv _ _ _ fun i x h=> ?_,hm⟩
 ·rw[List.getElem?_map] at h;cases hr:(List.range n)[i]? with
  |none=>rw[hr] at h;cases h
  |some j=>
   rw[hr] at h;have hj:O1 P j=some x:=by simpa using h
   have:=List.getElem?_eq_some_iff.1 hr;obtain ⟨h1,h2⟩:=this;have e:i=j:=by simpa using h2
   subst e;exact hj
 ·rw[List.getElem?_map] at h;cases hr:P.funcs.toList[i]? with
  |none=>rw[hr] at h;cases h
  |some f=>
   rw[hr] at h;have hf:f=x:=by simpa using h
   subst hf;have hm:f∈P.funcs.toList:=List.mem_of_getElem? hr;have hp:P.funcs[i]? =some f:=by simpa using hr
   refine ⟨hp,List.all_eq_true.1 h0 f hm,?_⟩;cases hb:vn f with
   |true=>exact .inl rfl
   |false=>
    have:=BI (e:=e) (P.funcs.toList.map vn) 0 i h1 (by rw[List.getElem?_map,hr];simp[hb])
    have ei:i=e:=by omega
    subst ei;rw[hp] at he;cases he;exact .inr ⟨h2,h3⟩
section
def bz (E:Env) (j:Job) (o:Out):Prop:=∃n0,∀n,n0≤n→run E n j=o
variable {E:Env} {nt:Nat} {tm tm1 tm2:Tr SV} {h h1 h2:Hs} {o:Out}
theorem bz.step {j:Job} (hs:∃n0,∀n,n0≤n→step E (run E n) j=o):bz E j o:=by
 obtain ⟨n0,hs⟩:=hs;refine ⟨n0+1,fun n hn=> ?_⟩
 obtain ⟨m,rfl⟩:∃m,n=m+1:=⟨n-1,by omega⟩
 exact hs m (by omega)
theorem bz.skip:bz E (.code nt .skip tm [] h) (.code .normal tm [] h):=.step ⟨0,fun _ _=>rfl⟩
theorem bz.exit {id:Nat}:bz E (.code nt (.exit id) tm [] h) (.code (.exit id) tm [] h):=.step ⟨0,fun _ _=>rfl⟩
theorem bz.ret:bz E (.code nt .ret tm [] h) (.code .ret tm [] h):=.step ⟨0,fun _ _=>rfl⟩
theorem bz.seq {a b:Code} (ha:bz E (.code nt a tm [] h) (.code .normal tm1 [] h1)) (hb:bz E (.code nt b tm1 [] h1) o):bz E (.code nt (.seq a b) tm [] h) o:=by
 obtain ⟨n1,e1⟩:=ha;obtain ⟨n2,e2⟩:=hb;refine .step ⟨n1+n2,fun n hn=> ?_⟩
 show rU (run E n (.code nt a tm [] h)) (fun tm' mk' h'=>run E n (.code nt b tm' mk' h'))=o
 rw[e1 n (by omega)]
 exact e2 n (by omega)
theorem bz.afh {a b:Code} {e:Ex} (he:eu e=false) (ha:bz E (.code nt a tm [] h) (.code e tm1 [] h1)):bz E (.code nt (.seq a b) tm [] h) (.code e tm1 [] h1):=by
 obtain ⟨n1,e1⟩:=ha;refine .step ⟨n1,fun n hn=> ?_⟩
 show rU (run E n (.code nt a tm [] h)) (fun tm' mk' h'=>run E n (.code nt b tm' mk' h'))=_
 rw[e1 n hn];cases e<;>first|rfl|(cases he;done)
theorem bz.Ro {c:Operand} {a b:Code} (hc:aI tm.get c=some (.bool true)) (ha:bz E (.code nt a tm [] h) o):bz E (.code nt (.cond c a b) tm [] h) o:=by
 obtain ⟨n1,e1⟩:=ha;refine .step ⟨n1,fun n hn=> ?_⟩
 show Bt (aI tm.get c) (run E n (.code nt a tm [] h)) (run E n (.code nt b tm [] h))=o;rw[hc];exact e1 n hn
theorem bz.Rp {c:Operand} {a b:Code} (hc:aI tm.get c=some (.bool false)) (hb:bz E (.code nt b tm [] h) o):bz E (.code nt (.cond c a b) tm [] h) o:=by
 obtain ⟨n1,e1⟩:=hb;refine .step ⟨n1,fun n hn=> ?_⟩
 show Bt (aI tm.get c) (run E n (.code nt a tm [] h)) (run E n (.code nt b tm [] h))=o;rw[hc];exact e1 n hn
theorem bz.block {id:Nat} {c:Code} {e:Ex} (ha:bz E (.code nt c tm [] h) (.code e tm1 [] h1)):bz E (.code nt (.block id c) tm [] h) (.code (leave id e) tm1 [] h1):=by
 obtain ⟨n1,e1⟩:=ha;refine .step ⟨n1,fun n hn=> ?_⟩
 show BA id (run E n (.code nt c tm [] h))=_;rw[e1 n hn];rfl
theorem bz.loop {c:Code} (ha:bz E (.code nt c tm [] h) (.code .normal tm1 [] h1)) (hb:bz E (.code nt (.loop c) tm1 [] h1) o):bz E (.code nt (.loop c) tm [] h) o:=by
 obtain ⟨n1,e1⟩:=ha;obtain ⟨n2,e2⟩:=hb;refine .step ⟨n1+n2,fun n hn=> ?_⟩
 show rU (run E n (.code nt c tm [] h)) (fun tm' mk' h'=>run E n (.code nt (.loop c) tm' mk' h'))=o
 rw[e1 n (by omega)]
 exact e2 n (by omega)
theorem bz.adW {c:Code} {e:Ex} (he:eu e=false) (ha:bz E (.code nt c tm [] h) (.code e tm1 [] h1)):bz E (.code nt (.loop c) tm [] h) (.code e tm1 [] h1):=by
 obtain ⟨n1,e1⟩:=ha;refine .step ⟨n1,fun n hn=> ?_⟩
 show rU (run E n (.code nt c tm [] h)) (fun tm' mk' h'=>run E n (.code nt (.loop c) tm' mk' h'))=_
 rw[e1 n hn];cases e<;>first|rfl|(cases he;done)
theorem bz.region {id:Nat} {ops:Array Oper} (ha:bz E (.ops nt ops.toList ops.toList tm [] h) o):bz E (.code nt (.region id ops false) tm [] h) o:=by
 obtain ⟨n1,e1⟩:=ha;exact .step ⟨n1,fun n hn=>e1 n hn⟩
theorem bz.drawn {id:Nat} {ops:Array Oper} (ha:bz E (.draw nt ops.size ops.toList h.nx 0 0 [] ops.toList tm ⟨h.hp,Nat.add h.nx ops.size,h.lg⟩) (.st tm1 h1)):bz E (.code nt (.region id ops true) tm [] h) (.code .normal tm1 [] h1):=by
 obtain ⟨n1,e1⟩:=ha;refine .step ⟨n1,fun n hn=> ?_⟩
 show stK (run E n (.draw nt ops.size ops.toList h.nx 0 0 [] ops.toList tm ⟨h.hp,Nat.add h.nx ops.size,h.lg⟩)) (fun e tm' _ h'=>.code e tm' [] h') (fun tm' h'=>.code .normal tm' [] h')= .code .normal tm1 [] h1
 rw[e1 n hn];rfl
theorem bz.afp {all:List Oper}:bz E (.ops nt all [] tm [] h) (.code .normal tm [] h):=.step ⟨0,fun _ _=>rfl⟩
theorem bz.afo {all l:List Oper} {p:Oper} {v:SV} {us:List Up} (hd:bX nt p.dst=true) (hw:bG all p tm.get=some true) (hc:dx p.op=none) (hdf:lX p.op=none) (hp:kG p.op=none) (hn:mb p.op=none)
  (hv:opA E p.op tm.get h.hp.get h.nx=some (v,us)) (ha:bz E (.ops nt all l (aY tm p.dst v) [] (h.fin us)) o):bz E (.ops nt all (p::l) tm [] h) o:=by
 obtain ⟨n1,e1⟩:=ha;refine .step ⟨n1,fun n hn'=> ?_⟩
 show sel (bX nt p.dst) (wI E (run E n) nt all l tm [] h p (bG all p tm.get)) (.fail "slot")=o;rw[hd,hw];show doK E (run E n) nt all l tm [] h p (dx p.op)=o;rw[hc];show FB E (run E n) nt all l tm [] h p (lX p.op) (kG p.op)=o;rw[hdf,hp];show Ae E (run E n) nt all l tm [] h p (mb p.op)=o;rw[hn];show OS (run E n) nt all l tm [] h p (opA E p.op tm.get h.hp.get h.nx)=o;rw[hv];exact e1 n hn'
theorem bz.adL {all l:List Oper} {p:Oper} (hd:bX nt p.dst=true) (hw:bG all p tm.get=some false) (ha:bz E (.ops nt all l (aY tm p.dst (.tup [])) [] h) o):bz E (.ops nt all (p::l) tm [] h) o:=by
 obtain ⟨n1,e1⟩:=ha;refine .step ⟨n1,fun n hn'=> ?_⟩
 show sel (bX nt p.dst) (wI E (run E n) nt all l tm [] h p (bG all p tm.get)) (.fail "slot")=o;rw[hd,hw];exact e1 n hn'
theorem bz.adM {all l:List Oper} {p:Oper} {c:Call} {f:SV} {aa:List SV} {v:SV} (hd:bX nt p.dst=true) (hw:bG all p tm.get=some true) (hc:dx p.op=some c) (hf:eW tm.get c.callee=some f) (has:bF tm.get c.args.toList=some aa)
  (hv:bz E (.call f aa h) (.res v h1)) (ha:bz E (.ops nt all l (aY tm p.dst v) [] h1) o):bz E (.ops nt all (p::l) tm [] h) o:=by
 obtain ⟨n1,e1⟩:=ha;obtain ⟨n2,e2⟩:=hv;refine .step ⟨n1+n2,fun n hn'=> ?_⟩
 show sel (bX nt p.dst) (wI E (run E n) nt all l tm [] h p (bG all p tm.get)) (.fail "slot")=o;rw[hd,hw];show doK E (run E n) nt all l tm [] h p (dx p.op)=o;rw[hc];show goK (run E n) h (eW tm.get c.callee) (bF tm.get c.args.toList) (jB (run E n) nt all l tm [] p.dst) (fun v h=>.code (.pan v) tm [] h)=o
 rw[hf,has];show Dd (run E n (.call f aa h)) (jB (run E n) nt all l tm [] p.dst) (fun v h=>.code (.pan v) tm [] h)=o
 rw[e2 n (by omega)]
 exact e1 n (by omega)
theorem bz.cf {k:Nat} {fi aa ca:List SV} (hc:bz E (.call (.fn (.func k) [] []) (fi++aa++ca) h) o):bz E (.call (.fn (.func k) fi ca) aa h) o:=by
 obtain ⟨n0,hn⟩:=hc;refine .step ⟨n0,fun n hn'=> ?_⟩
 show @Option.rec SV (fun _=>Out) (@Option.rec Mo (fun _=>Out) (sel (cc k E.stop) (.gM k (fi++aa++ca) h) (sel (fM E k (fi++aa++ca)) (.res (.tup []) h) (qj E (run E n) k (E.fn.get k) (fi++aa++ca) h))) (fun m=>.res m.v (nw m h)) (jr k (fi++aa++ca) h E.fE)) (fun v=>.res v h) (iV E k (fi++aa++ca))=o
 have q: @Option.rec SV (fun _=>Out) (@Option.rec Mo (fun _=>Out) (sel (cc k E.stop) (.gM k ([]++(fi++aa++ca)++ []) h) (sel (fM E k ([]++(fi++aa++ca)++ [])) (.res (.tup []) h) (qj E (run E n) k (E.fn.get k) ([]++(fi++aa++ca)++ []) h))) (fun m=>.res m.v (nw m h)) (jr k ([]++(fi++aa++ca)++ []) h E.fE)) (fun v=>.res v h) (iV E k ([]++(fi++aa++ca)++ []))=o:=hn (n+1) (by omega)
 rw[List.nil_append,List.append_nil] at q;exact q
structure xx (E:Env) (k:Nat) (fn:Func) (c:Code):Prop where
 get:E.fn.get k=some fn
 body:fn.body=some c
 num:nS fn.name=false
 done:ru k E.done=none
 fE:E.fE= []
 stop:E.stop= []
 jZ:E.jZ= []
 join:E.join= []
theorem bz.call {k:Nat} {fn:Func} {c:Code} (hk:xx E k fn c) {fi aa ca vs:List SV} {e:Ex} (hl:Nat.ble (fi++aa++ca).length fn.ntmps=true) (he:qb e=true)
  (hb:bz E (.code fn.ntmps c (setArgs (fi++aa++ca) 0 .nil) [] ⟨h.hp,h.nx,[]⟩) (.code e tm1 [] h1)) (hr:gx E tm1.get h1.hp.get fn.results.toList=some vs):
  bz E (.call (.fn (.func k) fi ca) aa h) (.res (oneOf vs) ⟨h1.hp,h1.nx,below h.nx h1.lg h.lg⟩):=by
 obtain ⟨n1,e1⟩:=hb;refine .step ⟨n1,fun n hn'=> ?_⟩
 show @Option.rec SV (fun _=>Out) (@Option.rec Mo (fun _=>Out) (sel (cc k E.stop) (.gM k (fi++aa++ca) h) (sel (fM E k (fi++aa++ca)) (.res (.tup []) h) (qj E (run E n) k (E.fn.get k) (fi++aa++ca) h))) (fun m=>.res m.v (nw m h)) (jr k (fi++aa++ca) h E.fE)) (fun v=>.res v h) (iV E k (fi++aa++ca))=_
 have ed:iV E k (fi++aa++ca)=none:=by
  generalize fi++aa++ca=l;cases l with
  |nil=>exact hk.done
  |cons _ _=>rfl
 have et:fM E k (fi++aa++ca)=false:=by
  unfold fM;split
  ·rw[hk.jZ];rfl
  ·rfl
 rw[ed];show @Option.rec Mo (fun _=>Out) (sel (cc k E.stop) (.gM k (fi++aa++ca) h) (sel (fM E k (fi++aa++ca)) (.res (.tup []) h) (qj E (run E n) k (E.fn.get k) (fi++aa++ca) h))) (fun m=>.res m.v (nw m h)) (jr k (fi++aa++ca) h E.fE)=_
 rw[hk.fE];show sel (cc k E.stop) (.gM k (fi++aa++ca) h) (sel (fM E k (fi++aa++ca)) (.res (.tup []) h) (qj E (run E n) k (E.fn.get k) (fi++aa++ca) h))=_;rw[hk.stop,et,hk.get];show @Option.rec Code (fun _=>Out) (Ks fn (fi++aa++ca) h) (fun c=>sel (Nat.ble (fi++aa++ca).length fn.ntmps) (sel (nS fn.name) (.fail "NumGoroutine") (w7 (cc k E.join) h.nx (vi E (run E n) fn h.nx h.lg (run E n (.code fn.ntmps c (setArgs (fi++aa++ca) 0 .nil) [] ⟨h.hp,h.nx,[]⟩))))) (.fail "args")) fn.body=_
 rw[hk.body];show sel (Nat.ble (fi++aa++ca).length fn.ntmps) (sel (nS fn.name) (.fail "NumGoroutine") (w7 (cc k E.join) h.nx (vi E (run E n) fn h.nx h.lg (run E n (.code fn.ntmps c (setArgs (fi++aa++ca) 0 .nil) [] ⟨h.hp,h.nx,[]⟩))))) (.fail "args")=_;rw[hl,hk.num,hk.join];show vi E (run E n) fn h.nx h.lg (run E n (.code fn.ntmps c (setArgs (fi++aa++ca) 0 .nil) [] ⟨h.hp,h.nx,[]⟩))=_;rw[e1 n hn'];have key:jk E (run E n) fn tm1 [] none h1= .res (oneOf vs) h1:=by
  show @Option.rec (List SV) (fun _=>Out) (.fail fn.name) (fun vs=>.res (oneOf vs) h1) (gx E tm1.get h1.hp.get fn.results.toList)=_
  rw[hr]
 cases e<;>first
  |(show Bq h.nx h.lg (jk E (run E n) fn tm1 [] none h1)=_;rw[key];rfl)
  |(cases he;done)
theorem bz.done {k:Nat} {v:SV} (hd:ru k E.done=some v):bz E (.call (.fn (.func k) [] []) [] h) (.res v h):=by
 refine .step ⟨0,fun n _=> ?_⟩
 show @Option.rec SV (fun _=>Out) _ (fun v=>.res v h) (ru k E.done)=_
 rw[hd]
theorem bz.fuel {j:Job} (hg:bz E j o):∃n,run E n j=o:=by
 obtain ⟨n,hn⟩:=hg;exact ⟨n,hn n (Nat.le_refl _)⟩
end
end Go.Sim
end
