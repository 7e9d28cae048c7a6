/- Texts that belong together. The first: A list of operations in order: from one state to another. -/
import Derived.Test.YtmealahmjddpcaaGreatDoorP4
set_option linter.all false
noncomputable section
namespace Go.Sim
section
variable {F F':Hf} {g g':Gb} {B:Bs} {φ:Nat->List Nat} {s s' s1:LS} {tm:Tf} {h:Hs} {hp:Hf} {E:Env} {nt:Nat} {all l:List Oper}
def hY (E:Env) (nt:Nat) (B:Bs) (all l:List Oper) (s s':LS):Prop:=
 ∀(F:Hf) (g:Gb) (φ:Nat->List Nat) (tm:Tr SV) (h:Hs),Rel B F g φ s tm.get h->∃F' g' φ' tm' h',Rel B F' g' φ' s' (Tr.get tm') h'/\bA E (.ops nt all l tm [] h) (.code .normal tm' [] h')
def LS.bc (s:LS) (d:Option Nat) (x:AV):LS:= @Option.rec Nat (fun _=>LS) s (fun d=>s.put d x) d
theorem Rel.bc {tm:Tr SV} (r:Rel B F g φ s tm.get h) {d:Option Nat} {v:SV} {x:AV} (hv:x≠ .undef->VA F g v x):Rel B F g φ (s.bc d x) (bc tm d v).get h:=by
 cases d with
 |none=>exact r
 |some d=>exact r.put (fun t=>Tr.da _ _ _ _) hv
theorem hY.nil:hY E nt B all [] s s:=fun F g φ tm h r=>⟨F,g,φ,tm,h,r,.agm⟩
mutual
def EC:Value->AV
 | .bool b=>.bool b
 | .int k n=>.int k n
 | .string s=>.str s
 | .pointer none=>.cX
 | .slice none 0 0=>.aT
 | .map none=>.cY
 | .nilFunc=>.dy
 | .nilIface=>.cN
 | .agg ⟨cs⟩=>sel (cs.all Value.oneCell') (.agg (qY cs)) .undef
 | .tuple ⟨cs⟩=>.tup (qY cs)
 |_=>.undef
def qY:List Value->List AV
 | []=> []
 |v::vs=>EC v::qY vs
end
mutual
theorem LL:∀(v:Value),VA F g (kT v) (EC v)
 | .bool b=>.bool b
 | .int k n=>.int k n
 | .string s=>.str s
 | .pointer none=>.cX
 | .slice none 0 0=>.aT
 | .map none=>.cY
 | .nilFunc=>.dy
 | .nilIface=>.cN
 | .agg ⟨cs⟩=>by
  show VA F g (sel (cs.all Value.oneCell') (.agg (iA cs)) .undef) (sel (cs.all Value.oneCell') (.agg (qY cs)) .undef);rw[aA,aA];split
  ·exact .agg (wR cs)
  ·exact .undef _
 | .tuple ⟨cs⟩=>.tup (wR cs)
 | .pointer (some _)=>.undef _
 | .slice (some _) _ _=>.undef _
 | .slice none 0 (_+1)=>.undef _
 | .slice none (_+1) _=>.undef _
 | .map (some _)=>.undef _
 | .func _ _ _=>.undef _
 | .iface _ _=>.undef _
 | .float _ _=>.undef _
 | .complex _ _ _=>.undef _
 | .chan _=>.undef _
theorem wR:∀(vs:List Value),VAs F g (iA vs) (qY vs)
 | []=>.nil
 |v::vs=>.cons (LL v) (wR vs)
end
def rL (o:Option AV):AV:= @Option.rec AV (fun _=>AV) .undef (fun x=>x) o
def aK (ts:List (Nat×AV)):Operand->AV
 | .tmp t=>rL (lk t ts)
 | .const v=>EC v
 | .global _=>.undef
 | .func f=>.fn f [] []
theorem Rel.val (r:Rel B F g φ s tm h) {x:Operand} {y:AV} (he:aK s.ts x=y) (hx:y≠ .undef):∃v,aI tm x=some v/\VA F g v y:=by
 subst he;cases x with
 |tmp t=>
  have hx:rL (lk t s.ts)≠ .undef:=hx;show ∃v,tm t=some v/\VA F g v (rL (lk t s.ts));cases hl:lk t s.ts with
  |none=>rw[hl] at hx;exact absurd rfl hx
  |some y=>rw[hl] at hx;exact r.tm t y hl hx
 |const v=>exact ⟨_,rfl,LL v⟩
 |global n=>exact absurd rfl hx
 |func f=>exact ⟨_,rfl,.fn f .nil .nil⟩
def gh (ts:List (Nat×AV)):List Operand->List AV
 | []=> []
 |x::l=>aK ts x::gh ts l
def qd:AV->Bool
 | .undef=>true
 |_=>false
theorem Bt {x:AV} (h:qd x=false):x≠ .undef:=fun e=>by subst e;cases h
def fg:List AV->Bool
 | []=>true
 |x::l=>sel (qd x) false (fg l)
theorem vT {x:AV} {l:List AV} (h:fg (x::l)=true):x≠ .undef/\fg l=true:=by
 have h:sel (qd x) false (fg l)=true:=h;cases hx:qd x with
 |true=>rw[hx] at h;cases h
 |false=>rw[hx] at h;exact ⟨Bt hx,h⟩
theorem Rel.bE (r:Rel B F g φ s tm h):∀{xs:List Operand},fg (gh s.ts xs)=true->∃vs,bE tm xs=some vs/\VAs F g vs (gh s.ts xs)
 | [],_=>⟨[],rfl,.nil⟩
 |x::l,hu=>by
  obtain ⟨u1,u2⟩:=vT (x:=aK s.ts x) (l:=gh s.ts l) hu;obtain ⟨v,h1,h2⟩:=r.val rfl u1;obtain ⟨vs,h3,h4⟩:=r.bE (xs:=l) u2;refine ⟨v::vs,?_,.cons h2 h4⟩;show aC (aI tm x) (Go.Sim.bE tm l) (fun v l=>some (v::l))=_
  rw[h1,h3];rfl
def As (want:Bool):AV->Option Bool
 | .bool b=>some (b==want)
 | .tup _=>some false
 |_=>none
def jL (all:List Oper) (p:Oper) (ts:List (Nat×AV)):Option Bool:= @Option.rec (Nat×Bool) (fun _=>Option Bool) (some true) (fun q=> @Option.rec Nat (fun _=>Option Bool) (some false) (fun t=>As q.2 (rL (lk t ts))) (qA all q.1)) p.guard
theorem pU {tm:Tr SV} (r:Rel B F g φ s tm.get h) {p:Oper} {b:Bool} (hw:jL all p s.ts=some b):bJ all p tm.get=some b:=by
 unfold jL at hw;unfold bJ;cases hg:p.guard with
 |none=>rw[hg] at hw;exact hw
 |some q=>
  rw[hg] at hw;show mj all tm.get q.1 q.2=some b;unfold mj;have hw: @Option.rec Nat (fun _=>Option Bool) (some false) (fun t=>As q.2 (rL (lk t s.ts))) (qA all q.1)=some b:=hw
  cases hd:qA all q.1 with
  |none=>rw[hd] at hw;exact hw
  |some t=>
   rw[hd] at hw;have hw:As q.2 (rL (lk t s.ts))=some b:=hw;show ai (tm.get t) (PD q.2)=some b;cases hl:lk t s.ts with
   |none=>rw[hl] at hw;cases hw
   |some y=>
    rw[hl] at hw;have hw:As q.2 y=some b:=hw;obtain ⟨v,v1,v2⟩:=r.tm t y hl (fun e=>by rw[e] at hw;cases hw)
    rw[v1];cases y<;>first|(cases hw;done)|skip
    ·cases v2;exact hw
    ·cases v2;exact hw
def Upd (h:Hs) (us:List Up) (new:Nat) (h':Hs):Prop:=(∀y,h'.hp.get y=(h.ups us).hp.get y)/\h.nx<=h'.nx/\new<h'.nx/\∀y∈h'.lg,y∈(h.ups us).lg
def Gb.at (g:Gb) (K id:Nat) (c:Cp):Gb:=⟨fun k=>if k=K then id else g.ρ k,fun k=>if k=K then c else g.κ k,fun k=>if k=K then true else g.β k⟩
def Af:SV->Cp
 | .sl _ _ _ c=>c
 |_=>.k 0
def dP (new:Nat) (us:List Up):Bool:=us.any fun u=>Nat.beq u.1 new
abbrev WK:=Option (Nat×Bool)
def rb (g:Gb) (W:WK) (new:Nat) (us:List Up) (v:SV):Gb:=
 match W with
 |none=>g
 |some q=>if dP new us=true then g.at q.1 new (Af v) else g
def pG (φ:Nat->List Nat) (W:WK) (new:Nat) (us:List Up):Nat->List Nat:=
 match W with
 |none=>φ
 |some q=>if dP new us=true then fun k=>if k=q.1 then [new] else φ k else φ
structure aO (E:Env) (B:Bs) (op:Op) (s s1:LS) (x:AV) (W:WK):Prop where
 go:∀{F:Hf} {g:Gb} {φ:Nat->List Nat} {tm:Tf} {h:Hs} {new:Nat},Rel B F g φ s tm h->h.hp.get new=none->B.nx<=new->∃v us,opA E op tm h.hp.get new=some (v,us)/\VA F (rb g W new us v) v x/\(∀h',Upd h us new h'\/(us= []/\h'=h)->Rel B F (rb g W new us v) (pG φ W new us) s1 tm h')/\
  (∀u∈us,u.1=new\/∃K b,W=some (K,false)/\lk K s.bs=some b/\u.1∈φ K)/\(∀k b',lk k s1.bs=some b'->(∃b,lk k s.bs=some b)\/(dP new us=true/\∃l,W=some (k,l)))/\∀k,((∃b,lk k s.bs=some b)\/∃l,W=some (k,l))->∃b',lk k s1.bs=some b'
def ti (op:Op):Bool:=
 match dG op,mv op,kR op,mG op with
 |none,none,none,none=>true
 |_,_,_,_=>false
theorem Qj {op:Op} (h:ti op=true):dG op=none/\mv op=none/\kR op=none/\mG op=none:=by
 unfold ti at h;split at h
 ·rename_i h1 h2 h3 h4;exact ⟨h1,h2,h3,h4⟩
 ·cases h
theorem afC {us:List Up}:Upd h us h.nx (h.fin us)\/(us= []/\h.fin us=h):=by
 cases us with
 |nil=>exact .inr ⟨rfl,rfl⟩
 |cons u us=>
  have hn:∀(us:List Up) (h:Hs),(h.ups us).nx=h.nx:=fun us=>by
   induction us with
   |nil=>exact fun _=>rfl
   |cons u us ih=>exact fun h=>ih (h.up u)
  refine .inl ⟨fun y=>rfl,?_,?_,fun y hy=>hy⟩
  ·show h.nx<=(h.ups (u::us)).nx+1;rw[hn];omega
  ·show h.nx<(h.ups (u::us)).nx+1;rw[hn];omega
theorem hY.op {p:Oper} {x:AV} {W:WK} (hd:cm nt p.dst=true) (hw:jL all p s.ts=some true) (hp:ti p.op=true) (hy:aO E B p.op s s1 x W) (hl:hY E nt B all l (s1.bc p.dst x) s'):hY E nt B all (p::l) s s':=fun F g φ tm h r=>by
 obtain ⟨h1,h2,h3,h4⟩:=Qj hp;obtain ⟨v,us,v1,v2,r1,_⟩:=hy.go (new:=h.nx) r (r.bd _ (Nat.le_refl _)) r.nx;obtain ⟨F',g',φ',tm',h',r',q⟩:=hl F _ _ _ _ ((r1 _ afC).bc (d:=p.dst) fun _=>v2)
 exact ⟨F',g',φ',tm',h',r',.agl hd (pU r hw) h1 h2 h3 h4 v1 q⟩
theorem hY.skip {p:Oper} (hd:cm nt p.dst=true) (hw:jL all p s.ts=some false) (hl:hY E nt B all l (s.bc p.dst (.tup [])) s'):hY E nt B all (p::l) s s':=fun F g φ tm h r=>by
 obtain ⟨F',g',φ',tm',h',r',q⟩:=hl F g φ _ h (r.bc (d:=p.dst) fun _=>.tup .nil)
 exact ⟨F',g',φ',tm',h',r',.aeE hd (pU r hw) q⟩
structure dh (B:Bs) (s s1:LS):Prop where
 go:∀{F:Hf} {g:Gb} {φ:Nat->List Nat} {tm:Tf} {h:Hs},Rel B F g φ s tm h->∃F' g' φ',Rel B F' g' φ' s1 tm h
theorem hY.ghost (hg:dh B s s1) (hl:hY E nt B all l s1 s'):hY E nt B all l s s':=fun F g φ tm h r=>by
 obtain ⟨F',g',φ',r'⟩:=hg.go r;exact hl F' g' φ' tm h r'
theorem dh.less (hw:lp s s1):dh B s s1:=.mk fun {F g φ _ _} r=>⟨F,g,φ,r.less hw⟩
theorem dh.refl:dh B s s:=.mk fun {F g φ _ _} r=>⟨F,g,φ,r⟩
theorem dh.trans {s2:LS} (a:dh B s s1) (b:dh B s1 s2):dh B s s2:=.mk fun r=>by
 obtain ⟨_,_,_,r1⟩:=a.go r;exact b.go r1
theorem jq {i:Nat} {o:Option SO} (x:Nat):(h.ups [(i,o)]).hp.get x=if x=i then o else h.hp.get x:=by
 show (h.hp.set i o).get x=_;rw[Tr.da]
theorem C0 {i:Nat} {o:Option SO}:(h.ups [(i,o)]).lg=i::h.lg:=rfl
theorem aO.pure {op:Op} {x:AV} (hy:∀{F:Hf} {g:Gb} {φ:Nat->List Nat} {tm:Tf} {h:Hs} {new:Nat},Rel B F g φ s tm h->∃v,opA E op tm h.hp.get new=some (v,[])/\VA F g v x):aO E B op s s x none:=aO.mk fun {F g φ tm h new} r h1 h2=>by
 obtain ⟨v,v1,v2⟩:=hy (new:=new) r;refine ⟨v,[],v1,v2,fun h' hu=> ?_,fun u hu=>(by cases hu),fun k b' hb=>.inl ⟨b',hb⟩,fun k hk=>hk.elim (fun x=>x) fun ⟨l,hl⟩=>by cases hl⟩
 show Rel B F g φ s tm h';rcases hu with ⟨u1,u2,u3,u4⟩|⟨_,rfl⟩
 ·exact {r with bx:=fun k b hb=>(r.bx k b hb).gf (Hle.refl F) fun i _=>u1 i,sub:=fun id o ho=>(u1 id).trans (r.sub id o ho),bd:=fun x hx=>(u1 x).trans (r.bd x (Nat.le_trans u2 hx)),nx:=Nat.le_trans r.nx u2,old:=fun x hx hp=>(u1 x).trans (r.old x hx hp),lg:=fun x hx=>r.lg x (u4 x hx)}
 ·exact r
theorem lQ {K id:Nat} {c:Cp}:(g.at K id c).ρ K=id:=by simp[Gb.at]
theorem adW {K id:Nat} {c:Cp}:(g.at K id c).κ K=c:=by simp[Gb.at]
theorem adX {K id:Nat} {c:Cp}:(g.at K id c).β K=true:=by simp[Gb.at]
theorem Si {K id k:Nat} {c:Cp} (hk:k≠K):gq g (g.at K id c) [k]:=fun j hj=>by
 have:j≠K:=by rw[List.mem_singleton.1 hj];exact hk
 simp[Gb.at,this]
theorem afm {K id:Nat} {c:Cp} {ks:List Nat} (h:K∉ks):gq g (g.at K id c) ks:=fun k hk=>by
 have:k≠K:=fun e=>h (e ▸ hk)
 simp[Gb.at,this]
theorem p8 {K k:Nat} {b:Bx} (hk:(∃b,lk k s.bs=some b)\/k=K):∃b',lk k (s.set K b).bs=some b':=by
 rw[show (s.set K b).bs=(K,b)::s.bs from rfl,bh];split
 ·exact ⟨_,rfl⟩
 ·rename_i e;exact hk.elim (fun x=>x) fun e'=>absurd e' e
theorem rX {new:Nat} {us:List Up} {o:Option SO} (h:(new,o)∈us):dP new us=true:=List.any_eq_true.2 ⟨_,h,(beq_iff _ _).2 rfl⟩
theorem wm {new:Nat} {us:List Up} (h:∀u∈us,u.1≠new):dP new us=false:=by
 cases hn:dP new us with
 |false=>rfl
 |true=>
  obtain ⟨u,hu,he⟩:=List.any_eq_true.1 hn;exact absurd ((beq_iff _ _).1 he) (h u hu)
theorem Ag {K:Nat} {l:Bool} {new:Nat} {us:List Up} {v:SV} (h:dP new us=true):rb g (some (K,l)) new us v=g.at K new (Af v):=if_pos h
theorem FI {K:Nat} {l:Bool} {new:Nat} {us:List Up} (h:dP new us=true):pG φ (some (K,l)) new us=fun k=>if k=K then [new] else φ k:=if_pos h
theorem nE {W:WK} {new:Nat} {us:List Up} {v:SV} (h:dP new us=false):rb g W new us v=g:=by
 cases W with
 |none=>rfl
 |some q=>show (if dP new us=true then _ else g)=g;rw[h];rfl
theorem wU {W:WK} {new:Nat} {us:List Up} (h:dP new us=false):pG φ W new us=φ:=by
 cases W with
 |none=>rfl
 |some q=>show (if dP new us=true then _ else φ)=φ;rw[h];rfl
theorem aO.lay {op:Op} {x:AV} {K:Nat} {b:Bx} (hk:s.free K) (hp:B.pk K=false)
  (hy:∀{F:Hf} {g:Gb} {φ:Nat->List Nat} {tm:Tf} {h:Hs} {new:Nat},Rel B F g φ s tm h->∃v o,opA E op tm h.hp.get new=some (v,[(new,some o)])/\VA F (g.at K new (Af v)) v x/\∀hp':Hf,hp' new=some o->cD F (g.at K new (Af v)) hp' K b [new]):aO E B op s (s.set K b) x (some (K,true)):=aO.mk fun {F g φ tm h new} r h1 h2=>by
 obtain ⟨v,o,v1,v2,v3⟩:=hy (new:=new) r;have hn:dP new [(new,some o)]=true:=rX List.mem_cons_self;refine ⟨v,_,v1,by rw[Ag hn];exact v2,fun h' hu=> ?_,fun u hu=>.inl (by rw[List.mem_singleton.1 hu]),fun k b' hb=> ?_,fun k hk=>p8 (hk.elim .inl fun ⟨l,hl⟩=>.inr (by cases hl;rfl))⟩
 rotate_left
 ·by_cases e:k=K
  ·subst e;exact .inr ⟨hn,true,rfl⟩
  ·rw[show (s.set K b).bs=(K,b)::s.bs from rfl,bh,if_neg e] at hb;exact .inl ⟨b',hb⟩
 rw[Ag hn,FI hn];rcases hu with ⟨u1,u2,u3,u4⟩|⟨hc,_⟩
 ·exact r.chg (K:=K) (b':=b) (fo:= []) (fp:= [new]) (g':=g.at K new (Af v)) (h':=h') (fun i hi=>by cases hi) (fun i hi=>.inr (by rw[List.mem_singleton.1 hi];exact ⟨h1,h2⟩))
   (fun x _ hx=>by rw[u1,jq,if_neg (fun e=>hx (by simp[e]))]) u2 (fun x hx=>by rw[u1,jq,if_neg (by omega)];exact r.bd x (by omega)) (fun x hx=>by have:=u4 x hx;rw[C0] at this;rcases List.mem_cons.1 this with rfl|hx;exact .inr (.inr (by simp));exact .inl hx) (v3 _ (by rw[u1,jq,if_pos rfl])) (.inr ⟨hk,hp,fun k hne=>Si hne⟩)
 ·cases hc
theorem lp.agv {K:Nat} {b:Bx} (hb:lk K s.bs=some b):lp s (s.set K b):=⟨fun t y hy=>.inr ⟨y,hy,WV.refl y⟩,fun k b' hb'=>by
 rw[show (s.set K b).bs=(K,b)::s.bs from rfl,bh] at hb';split at hb'
 ·rename_i e;cases hb';subst e;exact ⟨_,hb,WB.refl _⟩
 ·exact ⟨b',hb',WB.refl b'⟩⟩
theorem aO.wrO {op:Op} {x:AV} {K:Nat} {b b':Bx} (hb:lk K s.bs=some b)
  (hy:∀{F:Hf} {g:Gb} {φ:Nat->List Nat} {tm:Tf} {h:Hs} {new:Nat},Rel B F g φ s tm h->(∃v o,opA E op tm h.hp.get new=some (v,[(g.ρ K,some o)])/\VA F g v x/\φ K= [g.ρ K]/\∀hp':Hf,hp' (g.ρ K)=some o->cD F g hp' K b' [g.ρ K])\/∃v,opA E op tm h.hp.get new=some (v,[])/\VA F g v x/\b'=b):aO E B op s (s.set K b') x (some (K,false)):=aO.mk fun {F g φ tm h new} r h1 h2=>by
 rcases hy (new:=new) r with hy1|⟨v,v1,v2,e⟩
 rotate_left
 ·subst e;have less:lp s (s.set K b'):=lp.agv hb;refine ⟨v,[],v1,v2,fun h' hu=> ?_,fun u hu=>(by cases hu),fun k b2 hb2=> ?_,fun k hk=>p8 (hk.elim .inl fun ⟨l,hl⟩=>.inr (by cases hl;rfl))⟩
  ·show Rel B F g φ _ tm h';rcases hu with ⟨u1,u2,u3,u4⟩|⟨_,rfl⟩
   ·exact Rel.less {r with bx:=fun k b hb=>(r.bx k b hb).gf (Hle.refl F) fun i _=>u1 i,sub:=fun id o ho=>(u1 id).trans (r.sub id o ho),bd:=fun x hx=>(u1 x).trans (r.bd x (Nat.le_trans u2 hx)),nx:=Nat.le_trans r.nx u2,old:=fun x hx hp=>(u1 x).trans (r.old x hx hp),lg:=fun x hx=>r.lg x (u4 x hx)} less
   ·exact r.less less
  ·by_cases e:k=K
   ·subst e;exact .inl ⟨b',hb⟩
   ·rw[show (s.set K b').bs=(K,b')::s.bs from rfl,bh,if_neg e] at hb2;exact .inl ⟨b2,hb2⟩
 obtain ⟨v,o,v1,v2,hφ,v3⟩:=hy1;have hlt:=r.lt hb (g.ρ K) (by simp[hφ])
 have hne:g.ρ K≠new:=fun e=>(r.bx K b hb).there (g.ρ K) (by simp[hφ]) (by rw[e];exact h1)
 have hn:dP new [(g.ρ K,some o)]=false:=wm fun u hu=>by rw[List.mem_singleton.1 hu];exact hne
 refine ⟨v,_,v1,by rw[nE hn];exact v2,fun h' hu=> ?_,fun u hu=>.inr ⟨K,b,rfl,hb,by rw[List.mem_singleton.1 hu,hφ];simp⟩,fun k b2 hb2=> ?_,fun k hk=>p8 (hk.elim .inl fun ⟨l,hl⟩=>.inr (by cases hl;rfl))⟩
 rotate_left
 ·by_cases e:k=K
  ·subst e;exact .inl ⟨b,hb⟩
  ·rw[show (s.set K b').bs=(K,b')::s.bs from rfl,bh,if_neg e] at hb2;exact .inl ⟨b2,hb2⟩
 rw[nE hn,wU hn];rcases hu with ⟨u1,u2,u3,u4⟩|⟨hc,_⟩
 ·have:=r.chg (K:=K) (b':=b') (fo:= [g.ρ K]) (fp:= [g.ρ K]) (g':=g) (h':=h') (fun i hi=>⟨b,hb,by rw[hφ];exact hi⟩) (fun i hi=>.inl hi)
   (fun x _ hx=>by rw[u1,jq,if_neg (fun e=>hx (by simp[e]))]) u2 (fun x hx=>by rw[u1,jq,if_neg (by omega)];exact r.bd x (by omega)) (fun x hx=>by have:=u4 x hx;rw[C0] at this;rcases List.mem_cons.1 this with rfl|hx;exact .inr (.inr (by simp));exact .inl hx) (v3 _ (by rw[u1,jq,if_pos rfl])) (.inl rfl)
  have e:(fun k=>if k=K then [g.ρ K] else φ k)=φ:=by
   funext k;by_cases hk:k=K
   ·rw[if_pos hk,hk,hφ]
   ·rw[if_neg hk]
  rwa[e] at this
 ·cases hc
theorem aO.wr {op:Op} {x:AV} {K:Nat} {b b':Bx} (hb:lk K s.bs=some b)
  (hy:∀{F:Hf} {g:Gb} {φ:Nat->List Nat} {tm:Tf} {h:Hs} {new:Nat},Rel B F g φ s tm h->∃v o,opA E op tm h.hp.get new=some (v,[(g.ρ K,some o)])/\VA F g v x/\φ K= [g.ρ K]/\∀hp':Hf,hp' (g.ρ K)=some o->cD F g hp' K b' [g.ρ K]):aO E B op s (s.set K b') x (some (K,false)):=aO.wrO hb fun r=>.inl (hy r)
theorem aO.wrM {op:Op} {x:AV} {K:Nat} {b b':Bx} (hb:lk K s.bs=some b)
  (hy:∀{F:Hf} {g:Gb} {φ:Nat->List Nat} {tm:Tf} {h:Hs} {new:Nat},Rel B F g φ s tm h->∃v o,opA E op tm h.hp.get new=some (v,[(g.ρ K,some o)])/\VA F g v x/\g.ρ K∈φ K/\∀hp':Hf,hp' (g.ρ K)=some o->(∀x,x≠g.ρ K->hp' x=h.hp.get x)->cD F g hp' K b' (φ K)):aO E B op s (s.set K b') x (some (K,false)):=aO.mk fun {F g φ tm h new} r h1 h2=>by
 obtain ⟨v,o,v1,v2,hφ,v3⟩:=hy (new:=new) r;have hlt:=r.lt hb (g.ρ K) hφ;have hne:g.ρ K≠new:=fun e=>(r.bx K b hb).there (g.ρ K) hφ (by rw[e];exact h1)
 have hn:dP new [(g.ρ K,some o)]=false:=wm fun u hu=>by rw[List.mem_singleton.1 hu];exact hne
 refine ⟨v,_,v1,by rw[nE hn];exact v2,fun h' hu=> ?_,fun u hu=>.inr ⟨K,b,rfl,hb,by rw[List.mem_singleton.1 hu];exact hφ⟩,fun k b2 hb2=> ?_,fun k hk=>p8 (hk.elim .inl fun ⟨l,hl⟩=>.inr (by cases hl;rfl))⟩
 rotate_left
 ·by_cases e:k=K
  ·subst e;exact .inl ⟨b,hb⟩
  ·rw[show (s.set K b').bs=(K,b')::s.bs from rfl,bh,if_neg e] at hb2;exact .inl ⟨b2,hb2⟩
 rw[nE hn,wU hn];rcases hu with ⟨u1,u2,u3,u4⟩|⟨hc,_⟩
 ·have up:∀x,x≠g.ρ K->h'.hp.get x=h.hp.get x:=fun x hx=>by rw[u1,jq,if_neg hx]
  have:=r.chg (K:=K) (b':=b') (fo:=φ K) (fp:=φ K) (g':=g) (h':=h') (fun i hi=>⟨b,hb,hi⟩) (fun i hi=>.inl hi)
   (fun x _ hx=>up x fun e=>hx (e ▸ hφ)) u2 (fun x hx=>by rw[up x (by omega)];exact r.bd x (by omega)) (fun x hx=>by have:=u4 x hx;rw[C0] at this;rcases List.mem_cons.1 this with rfl|hx;exact .inr (.inr hφ);exact .inl hx) (v3 _ (by rw[u1,jq,if_pos rfl]) up) (.inl rfl)
  have e:(fun k=>if k=K then φ K else φ k)=φ:=by
   funext k;by_cases hk:k=K
   ·rw[if_pos hk,hk]
   ·rw[if_neg hk]
  rwa[e] at this
 ·cases hc
theorem cK {α γ:Type} {x:Option α} {a:α} {f:α->Option γ} (h:x=some a):ai x f=f a:=by rw[h];rfl
theorem mf {α β γ:Type} {x:Option α} {y:Option β} {a:α} {b:β} {f:α->β->Option γ} (h:x=some a) (k:y=some b):aC x y f=f a b:=by rw[h,k];rfl
end
section
variable {F F':Hf} {g g':Gb} {B:Bs} {φ:Nat->List Nat} {s s' s1:LS} {tm:Tf} {h:Hs} {hp:Hf} {E:Env} {nt:Nat} {all l:List Oper}
theorem aO.un {op:Op} {a:Operand} {f:Hf->SV->Option (SV×List Up)} {x y:AV} (hop:∀tm hp new,opA E op tm hp new=one tm a (f hp)) (ha:aK s.ts a=y) (hy:y≠ .undef)
  (hf:∀{F:Hf} {g:Gb} {φ:Nat->List Nat} {tm:Tf} {h:Hs} {v:SV},Rel B F g φ s tm h->VA F g v y->∃u,f h.hp.get v=some (u,[])/\VA F g u x):aO E B op s s x none:=aO.pure fun {F g φ tm h new} r=>by
 obtain ⟨v,v1,v2⟩:=r.val ha hy;obtain ⟨u,u1,u2⟩:=hf r v2;refine ⟨u,?_,u2⟩;rw[hop];unfold one;rw[v1];exact u1
theorem aO.bi {op:Op} {a b:Operand} {f:Hf->SV->SV->Option (SV×List Up)} {x y z:AV} (hop:∀tm hp new,opA E op tm hp new=two tm a b (f hp)) (ha:aK s.ts a=y) (hy:y≠ .undef) (hb:aK s.ts b=z) (hz:z≠ .undef)
  (hf:∀{F:Hf} {g:Gb} {φ:Nat->List Nat} {tm:Tf} {h:Hs} {v w:SV},Rel B F g φ s tm h->VA F g v y->VA F g w z->∃u,f h.hp.get v w=some (u,[])/\VA F g u x):aO E B op s s x none:=aO.pure fun {F g φ tm h new} r=>by
 obtain ⟨v,v1,v2⟩:=r.val ha hy;obtain ⟨w,w1,w2⟩:=r.val hb hz;obtain ⟨u,u1,u2⟩:=hf r v2 w2;refine ⟨u,?_,u2⟩;rw[hop];unfold two;rw[v1,w1];exact u1
def gI (i:TI) (cs:List AV) (off:Nat):Option AV:=
 sel (eU i.desc) (sel (Nat.ble (Nat.add off i.size) cs.length) (some (.agg ((cs.drop off).take i.size))) none) (cs[off]?)
theorem j8 {i:TI} {vs:List SV} {cs:List AV} {off:Nat} {x:AV} (q:VAs F g vs cs) (hx:gI i cs off=some x):∃v,cP i vs off=some v/\VA F g v x:=by
 unfold gI at hx;unfold cP;rw[aA] at hx ⊢;split at hx
 ·rename_i ha;rw[if_pos ha];obtain ⟨hl,hx⟩:=ar hx;cases hx;rw[q.length,aA,if_pos hl];exact ⟨_,rfl,.agg ((q.drop off).take i.size)⟩
 ·rename_i ha;rw[if_neg ha];exact q.get hx
theorem zB {i:TI} {svs:List SV} {off n:Nat} {u:SV} (h:cP i ((svs.drop off).take n) 0=some u) (hl:off+n<=svs.length):cP i svs off=some u:=by
 unfold cP at h ⊢;rw[aA] at h ⊢;split at h
 ·rename_i ha;rw[if_pos ha];obtain ⟨hle,hu⟩:=ar h;have hle:0+i.size<=((svs.drop off).take n).length:=(bj _ _).1 hle;rw[List.length_take,List.length_drop] at hle;cases hu;rw[aA,if_pos (show Nat.ble (Nat.add off i.size) svs.length=true from (bj _ _).2 (show off+i.size<=svs.length by omega))]
  rw[List.drop_zero,List.take_take,Nat.min_eq_left (by omega)]
 ·rename_i ha;rw[if_neg ha];rw[List.getElem?_take] at h;split at h
  ·rw[List.getElem?_drop] at h;simpa using h
  ·cases h
def tC (E:Env) (s:TypeId) (f:Nat):Option (Nat×TI):=ai (E.ty.get s) fun i=>ai (m8 i.desc) fun fs=>ai (fs[f]?) fun fl=>ai (E.ty.get fl.type) fun fi=>some (fl.off,fi)
theorem wD {t:TypeId} {f:Nat} {p:Nat×TI} (hf:tC E t f=some p):∃i fs fl,E.ty.get t=some i/\m8 i.desc=some fs/\fs[f]? =some fl/\E.ty.get fl.type=some p.2/\fl.off=p.1:=by
 obtain ⟨i,hi,hf⟩:=ae hf;obtain ⟨fs,hfs,hf⟩:=ae hf;obtain ⟨fl,hfl,hf⟩:=ae hf;obtain ⟨fi,hfi,hf⟩:=ae hf;cases hf;exact ⟨i,fs,fl,hi,hfs,hfl,hfi,rfl⟩
def XF (p:Nat×TI) (x:AV):Option AV:=
 sel (Nat.ble 1 p.2.size) (match x with
  | .loc K off=>some (.loc K (Nat.add off p.1))
  | .el K s j f=>some (.el K s j (Nat.add f p.1))
  | .imm cs=>sel (Nat.ble p.1 cs.length) (some (.imm (cs.drop p.1))) none
  |_=>none) none
theorem ZE {id off k:Nat} {cs:List AV} (q:VA F g (.ptr id off) (.imm cs)) (hk:k<=cs.length):VA F g (.ptr id (off+k)) (.imm (cs.drop k)):=by
 cases q with
 |imm hF hl hv=>
  refine .imm (kU hF (by omega) (by rw[List.length_drop];omega)) (by rw[List.length_drop];omega) ?_
  have:=hv.drop k;rw[List.drop_take,List.drop_drop] at this;rw[List.length_drop];exact this
theorem Kn {t:TypeId} {a:Operand} {f:Nat} {p:Nat×TI} {x y:AV} (hp:tC E t f=some p) (ha:aK s.ts a=y) (hx:XF p y=some x):aO E B (.fieldAddr t a f) s s x none:=by
 obtain ⟨i,fs,fl,e1,e2,e3,e4,e5⟩:=wD hp;obtain ⟨hsz,hx⟩:=ar hx;refine aO.un (f:=fun _=>jk E t f) (fun _ _ _=>rfl) ha (fun e=>by subst e;cases hx) fun {F g φ tm h v} r hv=> ?_
 have key:∀id off,jk E t f (.ptr id off)=some (SV.ptr id (Nat.add off p.1),[]):=fun id off=>by
  unfold jk;rw[e1];show ai (m8 i.desc) _=_;rw[e2];show ai (fs[f]?) _=_;rw[e3];show ai (E.ty.get fl.type) _=_;rw[e4];show sel (Nat.ble 1 p.2.size) (some (SV.ptr id (Nat.add off fl.off),[])) none=_;rw[hsz,e5]
 cases y with
 |loc K off=>
  cases hx;cases hv;exact ⟨_,key _ _,.loc K _⟩
 |el K sz j f'=>
  cases hx;cases hv with|el _ _ _ hb0=>
  refine ⟨_,key _ _,?_⟩;rw[show Nat.add (j*sz+f') p.1=j*sz+Nat.add f' p.1 from Nat.add_assoc _ _ _];exact .el sz j _ hb0
 |imm cs=>
  obtain ⟨hk,hx⟩:=ar (show sel (Nat.ble p.1 cs.length) (some (.imm (cs.drop p.1))) none=some x from hx);cases hx;have hv':∃id off,v=SV.ptr id off:=by cases hv;exact ⟨_,_,rfl⟩
  obtain ⟨id,off,rfl⟩:=hv';exact ⟨_,key _ _,ZE hv ((bj _ _).1 hk)⟩
 |_=>cases hx
theorem aej {i:TI} {cs:List AV} {x:AV} (h:gI i cs 0=some x):wide i<=cs.length:=by
 unfold gI at h;unfold wide;rw[aA] at h ⊢;split at h
 ·rename_i hg;rw[if_pos hg];obtain ⟨h1,_⟩:=ar h;have:=(bj _ _).1 h1;rwa[show Nat.add 0 i.size=i.size from Nat.zero_add _] at this
 ·rename_i hg;rw[if_neg hg];have:=(List.getElem?_eq_some_iff.1 h).1;omega
theorem qb {t:TypeId} {i:TI} {id off:Nat} {e:TypeId} {svs:List SV} {u:SV} (hi:E.ty.get t=some i) (hh:cF (hp id) off (wide i)=some (e,svs)) (hu:cP i svs off=some u):same (iE E hp t (.ptr id off))=some (u,[]):=by
 unfold iE;show same (ai (E.ty.get t) fun i=>ai (cF (hp id) off (wide i)) fun p=>cP i p.2 off)=_
 rw[hi];show same (ai (cF (hp id) off (wide i)) fun p=>cP i p.2 off)=_
 rw[hh];show same (cP i svs off)=_;rw[hu];rfl
def Gl (i:TI) (bs:List (Nat×Bx)):AV->Option AV
 | .imm cs=>ai (gI i cs 0) fun x=>sel (bR x).isEmpty (some x) none
 | .loc K off=>
  (match lk K bs with
  |some (.flat _ cs)=>gI i cs off
  |_=>none)
 |_=>none
theorem VA.fY {v:SV} {x:AV} (q:VA F g v x) (hk:(bR x).isEmpty=true):VA F g' v x:=q.gb fun k hk'=>by rw[List.isEmpty_iff.1 hk] at hk';cases hk'
theorem VAs.fY {v:List SV} {x:List AV} (q:VAs F g v x) (hk:(cM x).isEmpty=true):VAs F g' v x:=q.gb fun k hk'=>by rw[List.isEmpty_iff.1 hk] at hk';cases hk'
theorem O7 {t:TypeId} {i:TI} {x y:AV} {v:SV} (hi:E.ty.get t=some i) (hx:Gl i s.bs y=some x) (r:Rel B F g φ s tm h) (hv:VA F g v y):∃u,same (iE E h.hp.get t v)=some (u,[])/\VA F g u x:=by
 cases y with
 |imm cs=>
  obtain ⟨x',hx,hx'⟩:=ae (show ai (gI i cs 0) (fun x=>sel (bR x).isEmpty (some x) none)=some x from hx)
  obtain ⟨hk,hx'⟩:=ar hx';cases hx';cases hv with
  | @imm _ id off _ e svs hF hl hv=>
  obtain ⟨u,u1,u2⟩:=j8 hv hx;exact ⟨u,qb hi (kU (ib r.sub hF) (Nat.le_refl _) (Nat.add_le_add_left (aej hx) _)) (zB u1 hl),u2.fY hk⟩
 |loc K off=>
  have hx:(match lk K s.bs with|some (.flat _ cs)=>gI i cs off|_=>none)=some x:=hx
  split at hx
  ·rename_i e cs hb;cases hv;have q:=r.bx K _ hb;generalize φ K=fp at q;cases q with
   | @flat _ _ svs hh qc=>
   obtain ⟨u,u1,u2⟩:=j8 qc hx;exact ⟨u,qb hi (fN hh) u1,u2⟩
  ·cases hx
 |_=>cases hx
theorem aeJ {t:TypeId} {a:Operand} {i:TI} {x y:AV} (hi:E.ty.get t=some i) (ha:aK s.ts a=y) (hx:Gl i s.bs y=some x):aO E B (.load t a) s s x none:=aO.un (f:=fun hp v=>same (iE E hp t v)) (fun _ _ _=>rfl) ha (fun e=>by subst e;cases hx) fun {F g φ tm h v} r hv=>O7 hi hx r hv
theorem U4 {x:Option SV} {u:SV} (h:same x=some (u,[])):x=some u:=by
 cases x with
 |none=>cases h
 |some v=>cases h;rfl
end
section
variable {F F':Hf} {g g':Gb} {B:Bs} {φ:Nat->List Nat} {s s' s1:LS} {tm:Tf} {h:Hs} {hp:Hf} {E:Env} {nt:Nat} {all l:List Oper}
theorem aeI {a:Operand} {x:AV} (ha:aK s.ts a=x) (hx:x≠ .undef):aO E B (.move a) s s x none:=aO.un (f:=fun _ v=>some (v,[])) (fun _ _ _=>rfl) ha hx fun r hv=>⟨_,rfl,hv⟩
theorem WZ {a:Operand} {x:AV} (ha:aK s.ts a=x) (hx:x≠ .undef):aO E B (.assign a) s s x none:=aO.un (f:=fun _ v=>some (v,[])) (fun _ _ _=>rfl) ha hx fun r hv=>⟨_,rfl,hv⟩
theorem aeG {c a b:Operand} {t:Bool} {x:AV} (hc:aK s.ts c= .bool t) (ha:aK s.ts (sel t a b)=x) (hx:x≠ .undef):aO E B (.pick c a b) s s x none:=aO.pure fun {F g φ tm h new} r=>by
 obtain ⟨v,v1,v2⟩:=r.val hc (by simp)
 obtain ⟨w,w1,w2⟩:=r.val ha hx;cases v2;refine ⟨w,?_,w2⟩;show ai (aI tm c) (fun v=>ai (iC v) fun b'=>one tm (sel b' a b) fun v=>some (v,[]))=_
 rw[v1];show one tm (sel t a b) (fun v=>some (v,[]))=_
 unfold one;rw[w1];rfl
def ado:AV->Bool
 | .loc _ _| .el _ _ _ _| .imm _| .fn _ _ _=>true
 |_=>false
theorem NA {a:Operand} {x:AV} (ha:aK s.ts a=x) (hx:ado x=true):aO E B (.nilCheck a) s s x none:=aO.un (f:=fun _ v=>same (Bb v)) (fun _ _ _=>rfl) ha (fun e=>by subst e;cases hx) fun {F g φ tm h v} r hv=>by
 refine ⟨v,?_,hv⟩;cases x<;>first|(cases hx;done)|(cases hv<;>rfl)
theorem Y3 {t:TypeId} {a:Operand} {f:Nat} {p:Nat×TI} {cs:List AV} {x:AV} (hp:tC E t f=some p) (ha:aK s.ts a= .agg cs) (hx:gI p.2 cs p.1=some x):aO E B (.field t a f) s s x none:=by
 obtain ⟨i,fs,fl,e1,e2,e3,e4,e5⟩:=wD hp;refine aO.un (f:=fun _=>nk E t f) (fun _ _ _=>rfl) ha (by simp) fun {F g φ tm h v} r hv=> ?_
 cases hv with
 | @agg _ vs _ q=>
 obtain ⟨u,u1,u2⟩:=j8 q hx;refine ⟨u,?_,u2⟩;show nk E t f (.agg vs)=_;unfold nk;rw[e1];show ai (m8 i.desc) _=_;rw[e2];show ai (fs[f]?) _=_;rw[e3];show ai (E.ty.get fl.type) _=_;rw[e4];show same (cP p.2 vs fl.off)=_;rw[e5,u1];rfl
theorem Qp {a:Operand} {i:Nat} {xs:List AV} {x:AV} (ha:aK s.ts a= .tup xs) (hx:xs[i]? =some x):aO E B (.extract a i) s s x none:=aO.un (f:=fun _ v=>ai (Av v) fun vs=>same (vs[i]?)) (fun _ _ _=>rfl) ha (by simp) fun {F g φ tm h v} r hv=>by
 cases hv with
 | @tup _ vs _ q=>
 obtain ⟨u,u1,u2⟩:=q.get hx;refine ⟨u,?_,u2⟩;show same (vs[i]?)=_;rw[u1];rfl
def binL:BinOp->IntKind->Int->Int->Option AV
 | .add,k,m,n=>some (.int k (k.wrap (m+n)))
 | .sub,k,m,n=>some (.int k (k.wrap (m-n)))
 | .eql,_,m,n=>some (.bool (decide (m=n)))
 | .neq,_,m,n=>some (.bool (!decide (m=n)))
 | .lss,_,m,n=>some (.bool (decide (m<n)))
 | .leq,_,m,n=>some (.bool (!decide (n<m)))
 | .gtr,_,m,n=>some (.bool (decide (n<m)))
 | .geq,_,m,n=>some (.bool (!decide (m<n)))
 | .shr,k,m,n=>sel (decide (n=1)) (some (.int k (m.fdiv 2))) none
 |_,_,_,_=>none
theorem afl {op:BinOp} {t:TypeId} {k:IntKind} {m n:Int} {x:AV} (hx:binL op k m n=some x):∃v,LX E op t k (.lit m) (.int k (.lit n))=some v/\VA F g v x:=by
 have red:LX E op t k (.lit m) (.int k (.lit n))=Gp op E op t k k (.lit m) (.lit n):=rfl;rw[red];have kk:=QI k;cases op<;>first|(cases hx;done)|skip
 ·cases hx;refine ⟨.int k (.lit (k.wrap (m+n))),?_,.int _ _⟩;show sel (cn k k) (some (SV.int k (L7 k (.lit m) (.lit n)))) none=_;rw[kk];rfl
 ·cases hx;refine ⟨.int k (.lit (k.wrap (m-n))),?_,.int _ _⟩;show sel (cn k k) (some (SV.int k (zn k (.lit m) (.lit n)))) none=_;rw[kk];rfl
 ·obtain ⟨hn,hx⟩:=ar hx;have hn:n=1:=by simpa using hn
  subst hn;cases hx;refine ⟨.int k (.lit (m.fdiv 2)),?_,.int _ _⟩;cases k<;>rfl
 ·cases hx;refine ⟨.bool (decide (m=n)),?_,.bool _⟩;show sel (cn k k) (eW false (some (uq m n))) none=_;rw[kk,nr];rfl
 ·cases hx;refine ⟨.bool (!decide (m=n)),?_,.bool _⟩;show sel (cn k k) (eW true (some (uq m n))) none=_;rw[kk,nr];rfl
 ·cases hx;refine ⟨.bool (decide (m<n)),?_,.bool _⟩;show sel (cn k k) (eW false (some (mJ m n))) none=_;rw[kk,l5];rfl
 ·cases hx;refine ⟨.bool (!decide (n<m)),?_,.bool _⟩;show sel (cn k k) (eW true (some (mJ n m))) none=_;rw[kk,l5];rfl
 ·cases hx;refine ⟨.bool (decide (n<m)),?_,.bool _⟩;show sel (cn k k) (eW false (some (mJ n m))) none=_;rw[kk,l5];rfl
 ·cases hx;refine ⟨.bool (!decide (m<n)),?_,.bool _⟩;show sel (cn k k) (eW true (some (mJ m n))) none=_;rw[kk,l5];rfl
def binS:BinOp->ByteArray->ByteArray->Option AV
 | .eql,a,b=>some (.bool (decide (a=b)))
 | .neq,a,b=>some (.bool (!decide (a=b)))
 | .lss,a,b=>some (.bool (Op.bytesLess a.toList b.toList))
 | .leq,a,b=>some (.bool (Op.bytesLess a.toList b.toList||a.toList==b.toList))
 | .gtr,a,b=>some (.bool (!(Op.bytesLess a.toList b.toList||a.toList==b.toList)))
 | .geq,a,b=>some (.bool (!Op.bytesLess a.toList b.toList))
 |_,_,_=>none
theorem afk {op:BinOp} {t:TypeId} {a b:ByteArray} {x:AV} (hx:binS op a b=some x):∃v,XT E op t a (.str b)=some v/\VA F g v x:=by
 cases op<;>first|(cases hx;done)|skip
 ·cases hx;refine ⟨.bool (qk a b),rfl,?_⟩;rw[mo];exact .bool _
 ·cases hx;refine ⟨.bool (!qk a b),rfl,?_⟩;rw[mo];exact .bool _
 all_goals (cases hx;exact ⟨_,rfl,.bool _⟩)
def eqPL:AV->AV->Option Bool
 | .cX,.cX=>some true
 | .cX,.loc _ _| .cX,.el _ _ _ _| .cX,.imm _=>some false
 | .loc _ _,.cX| .el _ _ _ _,.cX| .imm _,.cX=>some false
 |_,_=>none
def eqSL:AV->AV->Option Bool
 | .aT,.aT=>some true
 | .aT,.sln _ _ rows=>some rows.isEmpty
 | .sln _ _ rows,.aT=>some rows.isEmpty
 |_,_=>none
def eqFL:AV->AV->Option Bool
 | .dy,.dy=>some true
 | .dy,.fn _ _ _=>some false
 | .fn _ _ _,.dy=>some false
 |_,_=>none
def eqML:AV->AV->Option Bool
 | .cY,.cY=>some true
 | .cY,.mp _=>some false
 | .mp _,.cY=>some false
 |_,_=>none
def eqIL (E:Env) (eq:TypeId->AV->AV->Option Bool):AV->AV->Option Bool
 | .cN,.cN=>some true
 | .cN,.ifc _ _=>some false
 | .ifc _ _,.cN=>some false
 | .ifc t1 v1,.ifc t2 v2=>sel (Nat.beq t1 t2) (ai (E.ty.get t1) fun i1=>sel i1.comparable (eq t1 v1 v2) none) (some false)
 |_,_=>none
def RE (E:Env) (eq:TypeId->AV->AV->Option Bool) (xs ys:List AV):List FL->Option Bool
 | []=>some true
 |f::fs=>sel f.named (ai (E.ty.get f.type) fun i=>aC (gI i xs f.off) (gI i ys f.off) fun x y=>aC (eq f.type x y) (RE E eq xs ys fs) fun a b=>some (a&&b)) none
def aac (E:Env) (eq:TypeId->AV->AV->Option Bool) (t:TypeId):UD->AV->AV->Option Bool
 | .bool,.bool a,.bool b=>some (a==b)
 | .int _,.int k a,.int k' b=>sel (cn k k') (some (decide (a=b))) none
 | .string,.str a,.str b=>some (decide (a=b))
 | .pointer,x,y=>eqPL x y
 | .slice _,x,y=>eqSL x y
 | .map _ _,x,y=>eqML x y
 | .struct fs,.agg xs,.agg ys=>sel (E.P.stoodInHeld t) none (RE E eq xs ys fs)
 | .func,x,y=>eqFL x y
 | .interface,x,y=>eqIL E eq x y
 |_,_,_=>none
def Eu (E:Env) (n:Nat):TypeId->AV->AV->Option Bool:=
 @Nat.rec (fun _=>TypeId->AV->AV->Option Bool) (fun _ _ _=>none) (fun _ eq t x y=>ai (E.ty.get t) fun i=>aac E eq t i.desc x y) n
theorem Lw {eq:TypeId->SV->SV->Option Bool} {eqL:TypeId->AV->AV->Option Bool} (ih:∀t v w x y b,VA F g v x->VA F g w y->eqL t x y=some b->eq t v w=some b) {vs ws:List SV} {xs ys:List AV} (h1:VAs F g vs xs) (h2:VAs F g ws ys):∀{fs:List FL} {b:Bool},RE E eqL xs ys fs=some b->uO E eq vs ws fs=some b
 | [],_,hb=>hb
 |f::fs,b,hb=>by
  obtain ⟨hn,hb⟩:=ar hb;obtain ⟨i,hi,hb⟩:=ae hb;obtain ⟨x,y,hx,hy,hb⟩:=av hb;obtain ⟨c,d,hc,hd,hb⟩:=av hb;obtain ⟨v,v1,v2⟩:=j8 h1 hx;obtain ⟨w,w1,w2⟩:=j8 h2 hy;have e1:=ih _ _ _ _ _ _ v2 w2 hc;have e2:=Lw ih h1 h2 hd;show sel f.named (ai (E.ty.get f.type) fun i=>aC (cP i vs f.off) (cP i ws f.off) fun x y=>andThen (eq f.type x y) (uO E eq vs ws fs)) none=_
  rw[hn,hi];show aC (cP i vs f.off) (cP i ws f.off) (fun x y=>andThen (eq f.type x y) (uO E eq vs ws fs))=_
  rw[v1,w1];show andThen (eq f.type v w) (uO E eq vs ws fs)=_;rw[e1,e2];cases hb;cases c<;>rfl
theorem JC {v:SV} {e:TypeId} {sz:Nat} {rows:List (List AV)} (q:VA F g v (.sln e sz rows)):Ev .aT v=some rows.isEmpty/\Ev v .aT=some rows.isEmpty:=by
 cases q with
 |ni=>exact ⟨rfl,rfl⟩
 |sln hF hc hn hz=>cases rows with
  |nil=>exact absurd rfl hz
  |cons=>exact ⟨rfl,rfl⟩
theorem Pb:∀(n:Nat) {t:TypeId} {v w:SV} {x y:AV} {b:Bool},VA F g v x->VA F g w y->Eu E n t x y=some b->eqT E n t v w=some b
 |0,_,_,_,_,_,_,_,_,hb=>by cases hb
 |n+1,t,v,w,x,y,b,hv,hw,hb=>by
  obtain ⟨i,hi,hb⟩:=ae (show ai (E.ty.get t) (fun i=>aac E (Eu E n) t i.desc x y)=some b from hb)
  show ai (E.ty.get t) (fun i=>eqD i.desc E (eqT E n) t v w)=_
  rw[hi];show eqD i.desc E (eqT E n) t v w=some b;have ih:∀t v w x y b,VA F g v x->VA F g w y->Eu E n t x y=some b->eqT E n t v w=some b:=fun _ _ _ _ _ _ a b c=>Pb n a b c
  generalize i.desc=d at hb;unfold aac at hb;split at hb
  ·cases hv;cases hw;exact hb
  ·cases hv;cases hw;obtain ⟨hk,hb⟩:=ar hb;show sel (cn _ _) (some (uq _ _)) none=_;rw[hk,nr];exact hb
  ·cases hv;cases hw;show some (qk _ _)=_;rw[mo];exact hb
  ·show GA v w=_;unfold eqPL at hb;split at hb<;>first|(cases hb;done)|(cases hv<;>cases hw<;>exact hb)
  ·show Ev v w=_;unfold eqSL at hb;split at hb
   ·cases hv;cases hw;exact hb
   ·cases hv;rw[(JC hw).1];exact hb
   ·cases hw;rw[(JC hv).2];exact hb
   ·cases hb
  ·show GB v w=_;unfold eqML at hb;split at hb<;>first|(cases hb;done)|(cases hv<;>cases hw<;>exact hb)
  ·cases hv with|agg h1=>cases hw with|agg h2=>
   show sel (E.P.stoodInHeld t) none (uO E (eqT E n) _ _ _)=_;rw[aA] at hb ⊢;split at hb
   ·cases hb
   ·rename_i hs;rw[if_neg hs];exact Lw ih h1 h2 hb
  ·show RF v w=_;unfold eqFL at hb;split at hb<;>first|(cases hb;done)|(cases hv<;>cases hw<;>exact hb)
  ·show GC E (eqT E n) v w=_;unfold eqIL at hb;split at hb
   ·cases hv;cases hw;exact hb
   ·cases hv;cases hw;exact hb
   ·cases hv;cases hw;exact hb
   ·cases hv with|ifc _ h1=>cases hw with|ifc _ h2=>
    show sel (Nat.beq _ _) (ai (E.ty.get _) fun i1=>sel i1.comparable (eqT E n _ _ _) none) (some false)=_
    rw[aA] at hb ⊢;split at hb
    ·rename_i e;rw[if_pos e];obtain ⟨i1,hi1,hb⟩:=ae hb;obtain ⟨hc,hb⟩:=ar hb;rw[hi1];show sel i1.comparable (eqT E n _ _ _) none=_;rw[hc];exact ih _ _ _ _ _ _ h1 h2 hb
    ·rename_i e;rw[if_neg e];exact hb
   ·cases hb
  ·cases hb
def RD (E:Env) (t:TypeId) (ox oy:Operand) (x:AV):Bool:=
 match x with
 | .cN=>isConst ox||isConst oy
 | .agg _=> !E.P.eqGuardType E.P.depth t
 | .undef=>false
 |_=>true
def gV (E:Env) (op:BinOp) (t:TypeId) (ox oy:Operand) (x y:AV):Option AV:=
 match op with
 | .eql=>sel (RD E t ox oy x) (ai (Eu E 20 t x y) fun b=>some (.bool b)) none
 | .neq=>sel (RD E t ox oy x) (ai (Eu E 20 t x y) fun b=>some (.bool (!b))) none
 |_=>none
def R7 (E:Env) (op:BinOp) (t:TypeId) (ox oy:Operand):AV->AV->Option AV
 | .int k m,.int k' n=>sel (cn k k') (binL op k m n) none
 | .str a,.str b=>binS op a b
 | .bool a,y=>gV E op t ox oy (.bool a) y
 | .agg xs,y=>gV E op t ox oy (.agg xs) y
 | .aT,y=>gV E op t ox oy .aT y
 | .sln a b c,y=>gV E op t ox oy (.sln a b c) y
 | .cX,y=>gV E op t ox oy .cX y
 | .loc a b,y=>gV E op t ox oy (.loc a b) y
 | .el a b c d,y=>gV E op t ox oy (.el a b c d) y
 | .imm a,y=>gV E op t ox oy (.imm a) y
 | .dy,y=>gV E op t ox oy .dy y
 | .fn a b c,y=>gV E op t ox oy (.fn a b c) y
 | .cY,y=>gV E op t ox oy .cY y
 | .mp a,y=>gV E op t ox oy (.mp a) y
 | .cN,y=>gV E op t ox oy .cN y
 | .ifc a b,y=>gV E op t ox oy (.ifc a b) y
 |_,_=>none
theorem YR {op:BinOp} {t:TypeId} {ox oy:Operand} {v w:SV} {x y z:AV} (hv:VA F g v x) (hw:VA F g w y) (hz:gV E op t ox oy x y=some z) (hb:∀v',VA F g v' x->aaz v'=fun E op t ox oy x y=>eR op E t ox oy x y):∃u,sS E op t ox oy v w=some u/\VA F g u z:=by
 have key:∀{b:Bool},RD E t ox oy x=true->Eu E 20 t x y=some b->uN E t ox oy v w=some b:=fun {b} h1 h2=>by
  have e2:=Pb 20 hv hw h2;unfold uN;have e1:aab E t ox oy v=true:=by
   cases x<;>first|(cases h1;done)|skip
   all_goals (cases hv<;>first|exact h1|rfl)
  rw[e1];exact e2
 show ∃u,aaz v E op t ox oy v w=some u/\VA F g u z;rw[hb v hv];unfold gV at hz;split at hz
 ·obtain ⟨h1,hz⟩:=ar hz;obtain ⟨b,h2,hz⟩:=ae hz;cases hz;refine ⟨.bool b,?_,.bool _⟩;show eW false (uN E t ox oy v w)=_;rw[key h1 h2];rfl
 ·obtain ⟨h1,hz⟩:=ar hz;obtain ⟨b,h2,hz⟩:=ae hz;cases hz;refine ⟨.bool (!b),?_,.bool _⟩;show eW true (uN E t ox oy v w)=_;rw[key h1 h2];rfl
 ·cases hz
theorem agu {op:BinOp} {t t2:TypeId} {a b:Operand} {x y z:AV} (ha:aK s.ts a=x) (hb:aK s.ts b=y) (hy:y≠ .undef) (hz:R7 E op t a b x y=some z):aO E B (.binOp op t a b t2) s s z none:=by
 refine aO.bi (f:=fun _ v u=>same (sS E op t a b v u)) (fun _ _ _=>rfl) ha (fun e=>by subst e;cases hz) hb hy fun {F g φ tm h v w} r hv hw=> ?_
 have key:∃u,sS E op t a b v w=some u/\VA F g u z:=by
  unfold R7 at hz;split at hz<;>first|(cases hz;done)|skip
  ·rename_i k m k' n;obtain ⟨hk,hz2⟩:=ar hz;have ek:k=k':=by cases k<;>cases k'<;>first|rfl|(cases hk;done)
   subst ek;cases hv;cases hw;exact afl hz2
  ·cases hv;cases hw;exact afk hz
  all_goals exact YR hv hw hz fun v' hv'=>by cases hv'<;>rfl
 obtain ⟨u,u1,u2⟩:=key;refine ⟨u,?_,u2⟩;show same (sS E op t a b v w)=_;rw[u1];rfl
end
section
variable {F F':Hf} {g g':Gb} {B:Bs} {φ:Nat->List Nat} {s s' s1:LS} {tm:Tf} {h:Hs} {hp:Hf} {E:Env} {nt:Nat} {all l:List Oper}
def unL (op:UnOp):AV->Option AV
 | .bool b=>sel (Bu op) (some (.bool (!b))) none
 | .int k n=>sel (isNeg op) (some (.int k (k.wrap (0-n)))) none
 |_=>none
theorem aiv {op:UnOp} {t:TypeId} {a:Operand} {x y:AV} (ha:aK s.ts a=y) (hx:unL op y=some x):aO E B (.unOp op t a) s s x none:=aO.un (f:=fun _ v=>same (unA op v)) (fun _ _ _=>rfl) ha (fun e=>by subst e;cases hx) fun {F g φ tm h v} r hv=>by
 cases y<;>first|(cases hx;done)|skip
 ·obtain ⟨h1,h2⟩:=ar hx;cases h2;cases hv;refine ⟨_,?_,.bool _⟩;show same (sel (Bu op) (some (SV.bool _)) none)=_;rw[h1];rfl
 ·obtain ⟨h1,h2⟩:=ar hx;cases h2;cases hv;refine ⟨_,?_,.int _ _⟩;show same (sel (isNeg op) (some (SV.int _ _)) none)=_;rw[h1];rfl
def GI:UD->AV->Option AV
 | .int k,.int _ n=>some (.int k (k.wrap n))
 | .string,.str s=>some (.str s)
 |_,_=>none
theorem aeM {src dst:TypeId} {a:Operand} {x y:AV} {i i2:TI} (hi:E.ty.get src=some i) (hi2:E.ty.get dst=some i2) (ha:aK s.ts a=y) (hx:GI i2.desc y=some x):aO E B (.convert src dst a) s s x none:=aO.un (f:=fun _ v=>same (BW E src dst v)) (fun _ _ _=>rfl) ha (fun e=>by subst e;unfold GI at hx;split at hx<;>simp_all) fun {F g φ tm h v} r hv=>by
 have key:∃u,GK i2.desc v=some u/\VA F g u x:=by
  generalize i2.desc=d at hx;unfold GI at hx;split at hx
  ·cases hx;cases hv;exact ⟨_,rfl,.int _ _⟩
  ·cases hx;cases hv;exact ⟨_,rfl,.str _⟩
  ·cases hx
 obtain ⟨u,u1,u2⟩:=key;refine ⟨u,?_,u2⟩;show same (aC (E.ty.get src) (E.ty.get dst) fun _ i=>GK i.desc v)=_
 rw[hi,hi2];show same (GK i2.desc v)=_;rw[u1];rfl
theorem agq {t:TypeId} {a:Operand} {i:TI} {x:AV} (hi:E.ty.get t=some i) (hd:nW i.desc=false) (ha:aK s.ts a=x) (hx:x≠ .undef):aO E B (.makeInterface t a) s s (.ifc t x) none:=aO.un (f:=fun _=>A5 E t) (fun _ _ _=>rfl) ha hx fun {F g φ tm h v} r hv=>by
 refine ⟨.ifc t v,?_,.ifc t hv⟩;show ai (E.ty.get t) (fun i=>sel (nW i.desc) none (some (SV.ifc t v,[])))=_
 rw[hi];show sel (nW i.desc) none _=_;rw[hd]
theorem aeK {f:FuncId} {a c:Array Operand} {xs ys:List AV} (ha:gh s.ts a.toList=xs) (hx:fg xs=true) (hc:gh s.ts c.toList=ys) (hy:fg ys=true):aO E B (.makeFunc (.func f) a c) s s (.fn f xs ys) none:=aO.pure fun {F g φ tm h new} r=>by
 subst ha;subst hc;obtain ⟨vs,v1,v2⟩:=r.bE hx;obtain ⟨ws,w1,w2⟩:=r.bE hy;refine ⟨.fn (.func f) vs ws,?_,.fn f v2 w2⟩;show sel (DQ (.func f)) (aC (bE tm a.toList) (bE tm c.toList) fun l m=>some (SV.fn (.func f) l m,[])) none=_
 rw[v1,w1];rfl
theorem aO.len1 {c:Call} {a:Operand} {t:TypeId} {i:TI} {x y:AV} (hc:c.callee= .builtin .len) (ha':c.args.toList= [a]) (ht':c.argTypes.toList= [t]) (hi:E.ty.get t=some i) (ha:aK s.ts a=y) (hy:y≠ .undef)
  (hf:∀{F:Hf} {g:Gb} {φ:Nat->List Nat} {tm:Tf} {h:Hs} {v:SV},Rel B F g φ s tm h->VA F g v y->∃u,nq i.desc v h.hp.get=some u/\VA F g u x):aO E B (.call c) s s x none:=aO.pure fun {F g φ tm h new} r=>by
 obtain ⟨v,v1,v2⟩:=r.val ha hy;obtain ⟨u,u1,u2⟩:=hf r v2;refine ⟨u,?_,u2⟩;show fc E tm h.hp.get new c=_;unfold fc;rw[hc];show ai (bE tm c.args.toList) (fun aa=>fM E h.hp.get new .len aa c.argTypes.toList)=_
 rw[ha',ht'];have e1:bE tm [a]=some [v]:=by
  show aC (aI tm a) (some []) (fun v l=>some (v::l))=_
  rw[v1];rfl
 rw[e1];show ai (E.ty.get t) (fun i=>same (nq i.desc v h.hp.get))=_
 rw[hi];show same (nq i.desc v h.hp.get)=_;rw[u1];rfl
def QD (bs:List (Nat×Bx)):UD->AV->Option Int
 | .slice _,.slice _ _ rows=>some (rows.length:Int)
 | .slice _,.sln _ _ rows=>some (rows.length:Int)
 | .slice _,.slf _ _ rows=>some (rows.length:Int)
 | .slice _,.slx _ _ rows=>some (rows.length:Int)
 | .slice _,.aT=>some 0
 | .slice _,.ms _ _ _ n=>some (n:Int)
 | .string,.str b=>some (b.size:Int)
 | .map _ _,.mp K=>(match lk K bs with|some (.map es)=>some (es.length:Int)|_=>none)
 | .map _ _,.cY=>some 0
 |_,_=>none
theorem agp {c:Call} {a:Operand} {t:TypeId} {i:TI} {n:Int} {y:AV} (hc:c.callee= .builtin .len) (ha':c.args.toList= [a]) (ht':c.argTypes.toList= [t]) (hi:E.ty.get t=some i) (ha:aK s.ts a=y) (hn:QD s.bs i.desc y=some n):aO E B (.call c) s s (.int .i64 n) none:=by
 refine aO.len1 hc ha' ht' hi ha (fun e=>by subst e;unfold QD at hn;split at hn<;>simp_all) fun {F g φ tm h v} r hv=> ?_
 generalize i.desc=d at hn;have key:∀{n':Nat},oP v=some n'->n=(n':Int)->∃u,ai (oP v) (fun n=>some (kZ n))=some u/\VA F g u (.int .i64 n):=fun {n'} h1 h2=>by
  rw[h1,h2];exact ⟨_,rfl,.int _ _⟩
 unfold QD at hn;split at hn
 ·cases hn;rename_i rows;have:oP v=some rows.length:=by cases hv with|iY=>rfl|slice hF hc hn=>rw[hn];rfl
  exact key this rfl
 ·cases hn;rename_i rows;have:oP v=some rows.length:=by cases hv with|ni=>rfl|sln hF hc hn=>rw[hn];rfl
  exact key this rfl
 ·cases hn;rename_i rows;have:oP v=some rows.length:=by cases hv with|sA=>rfl|slf hF hn=>rw[hn];rfl
  exact key this rfl
 ·cases hn;rename_i rows;have:oP v=some rows.length:=by cases hv with|mD=>rfl|sy=>rfl|slx hF hc hn=>rw[hn];rfl
  exact key this rfl
 ·cases hn;cases hv;exact key rfl rfl
 ·cases hn;rename_i n0;have:oP v=some n0:=by cases hv<;>rfl
  exact key this rfl
 ·cases hn;cases hv;exact ⟨_,rfl,.int _ _⟩
 ·split at hn
  ·rename_i K _ es hb;cases hn;cases hv;have q:=r.bx K _ hb;generalize φ K=fp at q;cases q with
   | @map _ ms cl hh hk hv=>
   refine ⟨kZ ms.length,?_,?_⟩
   ·show ai (jy (h.hp.get (g.ρ K))) (fun p=>some (kZ p.1.length))=_
    rw[hh];rfl
   ·have:ms.length=es.length:=by simpa using hk.length
    rw[this];exact .int _ _
  ·cases hn
 ·cases hn;cases hv;exact ⟨_,rfl,.int _ _⟩
 ·cases hn
def Zb (mx:Bool):AV->AV->Option AV
 | .int k m,.int k' n=>sel (cn k k') (some (.int k (sel mx (if m<n then n else m) (if n<m then n else m)))) none
 |_,_=>none
theorem WX {c:Call} {a b:Operand} {mx:Bool} {x y z:AV} (hc:c.callee= .builtin (sel mx .max .min)) (ha':c.args.toList= [a,b]) (ha:aK s.ts a=x) (hb:aK s.ts b=y) (hz:Zb mx x y=some z):aO E B (.call c) s s z none:=aO.pure fun {F g φ tm h new} r=>by
 cases x<;>first|(cases hz;done)|skip
 cases y<;>first|(cases hz;done)|skip
 obtain ⟨hk,hz⟩:=ar hz;cases hz;obtain ⟨v,v1,v2⟩:=r.val ha (by simp)
 obtain ⟨w,w1,w2⟩:=r.val hb (by simp)
 rename_i k m k' n;have e1:bE tm [a,b]=some [v,w]:=by
  show aC (aI tm a) (aC (aI tm b) (some []) (fun v l=>some (v::l))) (fun v l=>some (v::l))=_
  rw[v1,w1];rfl
 cases v2;cases w2;refine ⟨_,?_,.int _ _⟩;show fc E tm h.hp.get new c=_;unfold fc;rw[hc];show ai (bE tm c.args.toList) (fun aa=>fM E h.hp.get new (sel mx .max .min) aa c.argTypes.toList)=_
 rw[ha',e1];show fM E h.hp.get new (sel mx .max .min) [.int k (.lit m),.int k' (.lit n)] c.argTypes.toList=_;cases mx
 ·show same (ai (some (mJ n m)) fun r=>some (SV.int k (sel r (.lit n) (.lit m))))=_
  show some (SV.int k (sel (mJ n m) (.lit n) (.lit m)),[])=some (SV.int k (.lit (if n<m then n else m)),[])
  rw[l5,aA];by_cases hc:n<m
  ·simp[hc]
  ·simp[hc]
 ·show same (ai (some (mJ m n)) fun r=>some (SV.int k (sel r (.lit n) (.lit m))))=_
  show some (SV.int k (sel (mJ m n) (.lit n) (.lit m)),[])=some (SV.int k (.lit (if m<n then n else m)),[])
  rw[l5,aA];by_cases hc:m<n
  ·simp[hc]
  ·simp[hc]
theorem jI {α:Type} {s:Nat}:∀{rows:List (List α)},(∀r∈rows,r.length=s)->∀l,(rows.drop l).flatten=rows.flatten.drop (l*s)
 |_,_,0=>by simp
 | [],_,l+1=>by simp
 |r::rows,hu,l+1=>by
  have:=jI (rows:=rows) (fun q hq=>hu q (by simp[hq])) l
  rw[List.drop_succ_cons,this,List.flatten_cons,Nat.add_mul,Nat.one_mul,Nat.add_comm,<-List.drop_drop];rw[List.drop_left' (hu r (by simp))]
theorem je {α:Type} {s:Nat}:∀{rows:List (List α)},(∀r∈rows,r.length=s)->∀l,(rows.take l).flatten=rows.flatten.take (l*s)
 |_,_,0=>by simp
 | [],_,l+1=>by simp
 |r::rows,hu,l+1=>by
  have:=je (rows:=rows) (fun q hq=>hu q (by simp[hq])) l
  have hr:=hu r (by simp)
  rw[List.take_succ_cons,List.flatten_cons,this,List.flatten_cons,Nat.add_mul,Nat.one_mul,Nat.add_comm];rw[<-hr,List.take_length_add_append]
theorem qS {α:Type} {s:Nat}:∀{rows:List (List α)},(∀r∈rows,r.length=s)->rows.flatten.length=rows.length*s
 | [],_=>by simp
 |r::rows,hu=>by
  rw[List.flatten_cons,List.length_append,qS (fun q hq=>hu q (by simp[hq])),hu r (by simp),List.length_cons,Nat.add_mul,Nat.one_mul,Nat.add_comm]
def lv {α:Type} (rows:List α) (n:Int):Option α:=if 0<=n then rows[n.toNat]? else none
theorem zc {α:Type} {rows:List α} {n:Int} {R:α} (hg:lv rows n=some R):∃k:Nat,n=k/\rows[k]? =some R:=by
 unfold lv at hg;split at hg
 ·exact ⟨n.toNat,by omega,hg⟩
 ·cases hg
def ly:AV->Option (TypeId×Nat×List (List AV))
 | .slice e s rows=>some (e,s,rows)
 | .sln e s rows=>some (e,s,rows)
 | .slf e s rows=>some (e,s,rows)
 | .slx e s rows=>some (e,s,rows)
 |_=>none
theorem pF {v:SV} {x:AV} {e:TypeId} {sz:Nat} {rows:List (List AV)} (q:VA F g v x) (hx:ly x=some (e,sz,rows)):(rows= []/\(v= .aT\/v= .sle))\/∃id off c e' svs,v= .sl id off rows.length c/\oX e rows.length c/\cF (F id) off (rows.length*sz)=some (e',svs)/\(∀r∈rows,r.length=sz)/\off+rows.length*sz<=svs.length/\VAs F .no ((svs.drop off).take (rows.length*sz)) rows.flatten:=by
 unfold ly at hx;split at hx
 ·cases hx;cases q with
  |iY=>exact .inl ⟨rfl,.inl rfl⟩
  |slice hF hc hn hu hl h=>subst hn;exact .inr ⟨_,_,_,_,_,rfl,hc,hF,hu,hl,h⟩
 ·cases hx;cases q with
  |ni=>exact .inl ⟨rfl,.inl rfl⟩
  |sln hF hc hn hz hu hl h=>subst hn;exact .inr ⟨_,_,_,_,_,rfl,hc,hF,hu,hl,h⟩
 ·cases hx;cases q with
  |sA=>exact .inl ⟨rfl,.inl rfl⟩
  |slf hF hn hu hl h=>subst hn;exact .inr ⟨_,_,_,_,_,rfl,Nat.le_refl _,hF,hu,hl,h⟩
 ·cases hx;cases q with
  |mD=>exact .inl ⟨rfl,.inl rfl⟩
  |sy=>exact .inl ⟨rfl,.inr rfl⟩
  |slx hF hc hn hu hl h=>subst hn;exact .inr ⟨_,_,_,_,_,rfl,hc,hF,hu,hl,h⟩
 ·cases hx
theorem aex {id off s:Nat} {e:TypeId} {svs:List SV} {rows:List (List AV)} {k:Nat} {R:List AV} (hF:cF (F id) off (rows.length*s)=some (e,svs)) (hu:∀r∈rows,r.length=s) (hl:off+rows.length*s<=svs.length) (hv:VAs F .no ((svs.drop off).take (rows.length*s)) rows.flatten) (hk:rows[k]? =some R):k<rows.length/\VA F g (.ptr id (off+k*s)) (.imm R):=by
 have hlt:k<rows.length:=(List.getElem?_eq_some_iff.1 hk).1;have hR:R.length=s:=hu R (List.mem_of_getElem? hk);have hks:k*s+s<=rows.length*s:=by
  have:(k+1)*s<=rows.length*s:=Nat.mul_le_mul_right _ (by omega)
  rw[Nat.add_mul,Nat.one_mul] at this;exact this
 refine ⟨by omega,.imm (kU hF (by omega) (by rw[hR];omega)) (by rw[hR];omega) ?_⟩
 have e:R=(rows.flatten.drop (k*s)).take s:=by
  rw[<-jI hu,List.drop_eq_getElem_cons hlt,List.flatten_cons];have he:rows[k]=R:=(List.getElem?_eq_some_iff.1 hk).2;rw[he,List.take_left' hR]
 have:=(hv.drop (k*s)).take s;rw[<-e,List.drop_take,List.take_take,List.drop_drop,Nat.min_eq_left (by omega)] at this
 rw[hR];exact this
def elemOf (E:Env) (t:TypeId):Option TI:=ai (E.ty.get t) fun i=>ai (jw i.desc) fun e=>E.ty.get e
theorem KO {t:TypeId} {ie:TI} {id off m k:Nat} {c:Cp} (he:elemOf E t=some ie) (hk:k<m):same (g8 E t (.sl id off m c) k)=some (.ptr id (off+k*ie.size),[]):=by
 obtain ⟨i,hi,he⟩:=ae he;obtain ⟨e,hd,he⟩:=ae he;have hd:=j7 hd;unfold g8;rw[hi];show same (Bw i.desc E (.sl id off m c) k)=_;rw[hd];show same (qf E e id off m k)=_;unfold qf;rw[he,aA,if_pos ((bj _ _).2 hk)];rfl
theorem Y2 {t:TypeId} {a ix:Operand} {ie:TI} {sz:Nat} {rows:List (List AV)} {kd:IntKind} {n:Int} {R:List AV} {y:AV} {e:TypeId} (he:elemOf E t=some ie) (hsz:ie.size=sz) (ha:aK s.ts a=y) (hy:ly y=some (e,sz,rows)) (hix:aK s.ts ix= .int kd n) (hR:lv rows n=some R):aO E B (.indexAddr t a ix) s s (.imm R) none:=aO.bi (f:=fun _ v u=>ai (fu u) fun k=>same (g8 E t v k)) (fun _ _ _=>rfl) ha (fun e=>by subst e;cases hy) hix (by simp) fun {F g φ tm h v w} r hv hw=>by
 obtain ⟨k,hk,hRk⟩:=zc hR;subst hk;cases hw;rcases pF hv hy with ⟨rfl,_⟩|⟨id,off,c,e',svs,rfl,_,hF,hu,hl,h⟩
 ·cases hRk
 ·obtain ⟨h1,h2⟩:=aex (g:=g) hF hu hl h hRk;refine ⟨_,?_,h2⟩;show same (g8 E t (.sl id off rows.length c) k)=_;rw[KO he h1,hsz]
theorem NF {t:TypeId} {a ix:Operand} {ie:TI} {K sz lo n k:Nat} {kd:IntKind} {m:Int} (he:elemOf E t=some ie) (hsz:ie.size=sz) (ha:aK s.ts a= .ms K sz lo n) (hix:aK s.ts ix= .int kd m) (hm:m=(k:Int)) (hk:k<n):aO E B (.indexAddr t a ix) s s (.el K sz (lo+k) 0) none:=aO.bi (f:=fun _ v u=>ai (fu u) fun k=>same (g8 E t v k)) (fun _ _ _=>rfl) ha (by simp) hix (by simp) fun {F g φ tm h v w} r hv hw=>by
 subst hm;cases hw;have hv':v=SV.sl (g.ρ K) (lo*sz) n (kz (g.κ K) lo)/\g.β K=true:=by
  cases hv with
  |msN=>omega
  |msE=>omega
  |ms _ _ _ hb0=>exact ⟨rfl,hb0⟩
 obtain ⟨rfl,hb0⟩:=hv';refine ⟨_,KO he hk,?_⟩;rw[hsz,<-Nat.add_mul];exact .el sz (lo+k) 0 hb0
theorem Ov {sz j f n:Nat} {α:Type} {Q:List (List α)} {R:List α} (hu:∀r∈Q,r.length=sz) (hj:Q[j]? =some R) (hf:f+n<=sz):(Q.flatten.drop (j*sz+f)).take n=(R.drop f).take n:=by
 have hlt:j<Q.length:=(List.getElem?_eq_some_iff.1 hj).1;have hR:R.length=sz:=hu R (List.mem_of_getElem? hj);have he:Q[j]=R:=(List.getElem?_eq_some_iff.1 hj).2;rw[<-List.drop_drop,<-jI hu,List.drop_eq_getElem_cons hlt,List.flatten_cons,he,List.drop_append,List.take_append_of_le_length];rw[List.length_drop];omega
theorem Qn {t:TypeId} {a:Operand} {i:TI} {K sz j f:Nat} {z:Bool} {e:TypeId} {Q:List (List AV)} {R:List AV} {x:AV} (hi:E.ty.get t=some i) (ha:aK s.ts a= .el K sz j f) (hb:lk K s.bs=some (.rows z e sz Q)) (hj:Q[j]? =some R) (hf:Nat.ble (Nat.add f i.size) sz=true) (hx:gI i ((R.drop f).take i.size) 0=some x) (hk:(bR x).isEmpty=true):aO E B (.load t a) s s x none:=aO.un (f:=fun hp v=>same (iE E hp t v)) (fun _ _ _=>rfl) ha (by simp) fun {F g φ tm h v} r hv=>by
 cases hv;have hf:f+i.size<=sz:=Nat.le_of_ble_eq_true hf;have q:=r.bx K _ hb;generalize φ K=fp at q;cases q with
 |cI=>cases hj
 | @rows _ _ _ _ svs hb' hh hz hu hc q=>
 have hl:=eN hc;have hlt:j<Q.length:=(List.getElem?_eq_some_iff.1 hj).1;have hjs:j*sz+sz<=Q.length*sz:=by
  have:(j+1)*sz<=Q.length*sz:=Nat.mul_le_mul_right _ (by omega)
  rw[Nat.add_mul,Nat.one_mul] at this;exact this
 have q1:=(q.drop (j*sz+f)).take i.size;rw[Ov hu hj hf,List.drop_take,List.take_take,Nat.min_eq_left (by omega)] at q1
 obtain ⟨u,u1,u2⟩:=j8 q1 hx;exact ⟨u,qb hi (fN hh) (zB u1 (by omega)),u2.fY hk⟩
theorem NB {t:TypeId} {a:Operand} {i:TI} {K sz j f:Nat} {e:TypeId} {Q:List (List AV)} {R:List AV} {x x0:AV} {i0:Nat} (hi:E.ty.get t=some i) (ha:aK s.ts a= .el K sz j f) (hb:lk K s.bs=some (.hole e sz Q i0 x0)) (hj:Q[j]? =some R) (hf:Nat.ble (Nat.add f i.size) sz=true) (hx:gI i ((R.drop f).take i.size) 0=some x) (hk:(bR x).isEmpty=true):aO E B (.load t a) s s x none:=aO.un (f:=fun hp v=>same (iE E hp t v)) (fun _ _ _=>rfl) ha (by simp) fun {F g φ tm h v} r hv=>by
 cases hv;have hf:f+i.size<=sz:=Nat.le_of_ble_eq_true hf;have q:=r.bx K _ hb;generalize φ K=fp at q;cases q with
 | @hole _ _ _ _ _ svs v0 hb' hh hu hc q hi0 hv0 hx0=>
 have hl:=eN hc;have hlt:j<Q.length:=(List.getElem?_eq_some_iff.1 hj).1;have hjs:j*sz+sz<=Q.length*sz:=by
  have:(j+1)*sz<=Q.length*sz:=Nat.mul_le_mul_right _ (by omega)
  rw[Nat.add_mul,Nat.one_mul] at this;exact this
 have q1:=(q.drop (j*sz+f)).take i.size;rw[Ov hu hj hf,List.drop_take,List.take_take,Nat.min_eq_left (by omega)] at q1
 obtain ⟨u,u1,u2⟩:=j8 q1 hx;exact ⟨u,qb hi (fN hh) (zB u1 (by omega)),u2.fY hk⟩
theorem NC {t:TypeId} {a:Operand} {i:TI} {K sz j f:Nat} {e:TypeId} {Q:List (List AV)} {x:AV} (hi:E.ty.get t=some i) (hg:eU i.desc=false) (ha:aK s.ts a= .el K sz j f) (hb:lk K s.bs=some (.hole e sz Q (j*sz+f) x)):aO E B (.load t a) s s x none:=aO.un (f:=fun hp v=>same (iE E hp t v)) (fun _ _ _=>rfl) ha (by simp) fun {F g φ tm h v} r hv=>by
 cases hv;have q:=r.bx K _ hb;generalize φ K=fp at q;cases q with
 | @hole _ _ _ _ _ svs v0 hb' hh hu hc q hi0 hv0 hx0=>
 refine ⟨v0,qb hi (fN hh) ?_,hx0⟩;unfold cP;rw[hg];exact hv0
theorem Qo {t:TypeId} {a:Operand} {i:TI} {K j f:Nat} {e e':TypeId} {sz:Nat} {Q:List (Option (List (List AV)))} {x:AV} (hi:E.ty.get t=some i) (hg:eU i.desc=false) (ha:aK s.ts a= .el K 1 j f) (hb:lk K s.bs=some (.own e e' sz Q (some (j*1+f,x)))):aO E B (.load t a) s s x none:=aO.un (f:=fun hp v=>same (iE E hp t v)) (fun _ _ _=>rfl) ha (by simp) fun {F g φ tm h v} r hv=>by
 cases hv;have q:=r.bx K _ hb;generalize φ K=fp at q;cases q with
 |own hb' hh hc q nd ho=>
 obtain ⟨_,v0,hv0,hx0⟩:=ho _ _ rfl;refine ⟨v0,qb hi (fN hh) ?_,hx0⟩;unfold cP;rw[hg];exact hv0
end
section
variable {F F':Hf} {g g':Gb} {B:Bs} {φ:Nat->List Nat} {s s' s1:LS} {tm:Tf} {h:Hs} {hp:Hf} {E:Env} {nt:Nat} {all l:List Oper}
def jh:AV->Option (List AV)
 | .agg cs=>some cs
 | .tup _=>none
 | .undef=>none
 |x=>some [x]
theorem VAs.one {v:SV} {x:AV} (h:VA F g v x):VAs F g [v] [x]:=.cons h .nil
theorem mc {v:SV} {y:AV} {xs:List AV} (q:VA F g v y) (hc:jh y=some xs):∃cs,v.cells=some cs/\VAs F g cs xs:=by
 cases q with
 |agg q=>cases hc;exact ⟨_,rfl,q⟩
 |tup=>cases hc
 |undef=>cases hc
 |_=>cases hc;exact ⟨_,rfl,.one (by constructor<;>assumption)⟩
def PC:SV->AV
 | .bool b=>.bool b
 | .int k (.lit n)=>.int k n
 | .str s=>.str s
 | .cX=>.cX
 | .aT=>.aT
 | .cY=>.cY
 | .dy=>.dy
 | .cN=>.cN
 |_=>.undef
theorem aei (v:SV):VA F g v (PC v):=by
 unfold PC;split<;>constructor
def eC:List SV->List AV
 | []=> []
 |v::l=>PC v::eC l
theorem jJ:∀(l:List SV),VAs F g l (eC l)
 | []=>.nil
 |v::l=>.cons (aei v) (jJ l)
def cq (cs:List AV) (off:Nat) (xs:List AV):List AV:=cs.take off++xs++cs.drop (Nat.add off xs.length)
theorem jF {vs:List SV} {xs:List AV} {ws:List SV} {ys:List AV} (h:VAs F g vs xs) (k:VAs F g ws ys) (off:Nat):VAs F g (bH vs off ws) (cq xs off ys):=h.bH k off
def tj (ts:List (Nat×AV)):List (Nat×Operand)->Option (List (Nat×List AV))
 | []=>some []
 |p::rest=>aC (jh (aK ts p.2)) (tj ts rest) fun cs l=>some ((p.1,cs)::l)
def uI (place:Nat->Option (Nat×Nat)) (cs:List AV):List (Nat×List AV)->Option (List AV)
 | []=>some cs
 |p::rest=>ai (place p.1) fun q=>sel (Nat.beq p.2.length q.2&&Nat.ble (Nat.add q.1 q.2) cs.length) (uI place (cq cs q.1 p.2) rest) none
inductive PVs (F:Hf) (g:Gb):List (Nat×List SV)->List (Nat×List AV)->Prop
 |nil:PVs F g [] []
 |cons {j vs xs l m} (h:VAs F g vs xs) (t:PVs F g l m):PVs F g ((j,vs)::l) ((j,xs)::m)
theorem zA (r:Rel B F g φ s tm h):∀{l:List (Nat×Operand)} {m:List (Nat×List AV)},tj s.ts l=some m->∃k,eE tm l=some k/\PVs F g k m
 | [],_,hm=>by cases hm;exact ⟨[],rfl,.nil⟩
 |p::rest,m,hm=>by
  obtain ⟨cs,m',h1,h2,h3⟩:=av hm;cases h3;obtain ⟨v,v1,v2⟩:=r.val (x:=p.2) rfl (fun e=>by rw[e] at h1;cases h1)
  obtain ⟨ws,w1,w2⟩:=mc v2 h1;obtain ⟨k,k1,k2⟩:=zA r h2;refine ⟨(p.1,ws)::k,?_,.cons w2 k2⟩;show ai (aI tm p.2) (fun v=>aC v.cells (eE tm rest) fun cs l=>some ((p.1,cs)::l))=_
  rw[v1];show aC v.cells (eE tm rest) (fun cs l=>some ((p.1,cs)::l))=_
  rw[w1,k1];rfl
theorem xG {place:Nat->Option (Nat×Nat)}:∀{k:List (Nat×List SV)} {m:List (Nat×List AV)} {vs:List SV} {xs ys:List AV},PVs F g k m->VAs F g vs xs->uI place xs m=some ys->∃ws,gk place vs k=some ws/\VAs F g ws ys
 |_,_,vs,_,_,.nil,hv,hy=>by cases hy;exact ⟨vs,rfl,hv⟩
 |_,_,vs,xs,ys,.cons (j:=j) (vs:=pv) (l:=kt) h t,hv,hy=>by
  obtain ⟨q,h1,hy⟩:=ae hy;obtain ⟨h2,hy⟩:=ar hy;obtain ⟨ws,w1,w2⟩:=xG t (jF hv h q.1) hy;refine ⟨ws,?_,w2⟩;show ai (place j) (fun q=>sel (Nat.beq pv.length q.2&&Nat.ble (Nat.add q.1 q.2) vs.length) (gk place (bH vs q.1 pv) kt) none)=_
  rw[h1];show sel (Nat.beq pv.length q.2&&Nat.ble (Nat.add q.1 q.2) vs.length) (gk place (bH vs q.1 pv) kt) none=_;rw[h.length,hv.length,h2];exact w1
def LU (E:Env) (z:List AV) (pcs:List (Nat×List AV)):UD->Option (List AV)
 | .array _ e=>ai (E.ty.get e) fun ie=>uI (jx ie.size) z pcs
 | .struct fs=>uI (AX E fs) z pcs
 |_=>none
theorem Y4 {t:TypeId} {parts:Array (Nat×Operand)} {i:TI} {m:List (Nat×List AV)} {ys:List AV} (hi:E.ty.get t=some i) (hm:tj s.ts parts.toList=some m) (hy:LU E (eC i.zero) m i.desc=some ys):aO E B (.build t parts) s s (.agg ys) none:=aO.pure fun {F g φ tm h new} r=>by
 obtain ⟨k,k1,k2⟩:=zA r hm;have key:∃ws,oG E t k=some (.agg ws)/\VAs F g ws ys:=by
  unfold oG;rw[hi];show ∃ws,XR i.desc E i.zero k=some (.agg ws)/\_;generalize i.desc=d at hy;unfold LU at hy;split at hy
  ·obtain ⟨ie,hie,hy⟩:=ae hy;obtain ⟨ws,w1,w2⟩:=xG k2 (jJ (F:=F) (g:=g) i.zero) hy;refine ⟨ws,?_,w2⟩;show ai (E.ty.get _) (fun ie=>wZ (gk (jx ie.size) i.zero k))=_
   rw[hie];show wZ (gk (jx ie.size) i.zero k)=_;rw[w1];rfl
  ·obtain ⟨ws,w1,w2⟩:=xG k2 (jJ (F:=F) (g:=g) i.zero) hy;refine ⟨ws,?_,w2⟩;show wZ (gk (AX E _) i.zero k)=_;rw[w1];rfl
  ·cases hy
 obtain ⟨ws,w1,w2⟩:=key;refine ⟨.agg ws,?_,.agg w2⟩;show ai (eE tm parts.toList) (fun pcs=>same (oG E t pcs))=_
 rw[k1];show same (oG E t k)=_;rw[w1];rfl
theorem Pe {K id:Nat} {c:Cp} {e:TypeId} {svs:List SV} {xs:List AV} (hf:VAs F (g.at K id c) svs xs):∀hp':Hf,hp' id=some (.cells e svs)->cD F (g.at K id c) hp' K (.flat e xs) [id]:=fun hp' hh=>by
 have:=cD.flat (F:=F) (g:=g.at K id c) (h:=hp') (K:=K) (e:=e) (cs:=xs) (svs:=svs) (by rw[lQ];exact hh) hf
 rwa[lQ] at this
theorem acr {K id:Nat} {c:Cp} {off:Nat}:VA F (g.at K id c) (.ptr id off) (.loc K off):=by
 have:=VA.loc (F:=F) (g:=g.at K id c) K off;rwa[lQ] at this
theorem QA {K id sz n:Nat} {c:Cp}:VA F (g.at K id c) (.sl id 0 n c) (.ms K sz 0 n):=by
 have:=VA.ms (F:=F) (g:=g.at K id c) (K:=K) sz 0 n adX;rw[lQ,adW,Nat.zero_mul] at this;cases c<;>exact this
theorem xM {K id sz:Nat} {c:Cp} {z:Bool} {e:TypeId} {svs:List SV} {Q:List (List AV)} (hz:z=true->Q≠ []) (hu:∀r∈Q,r.length=sz) (hc:pO e sz Q.length svs.length c) (q:VAs F .no (svs.take (Q.length*sz)) Q.flatten):∀hp':Hf,hp' id=some (.cells e svs)->cD F (g.at K id c) hp' K (.rows z e sz Q) [id]:=fun hp' hh=>by
 have:=cD.rows (F:=F) (g:=g.at K id c) (h:=hp') (K:=K) (z:=z) (e:=e) adX (by rw[lQ];exact hh) hz hu (by rw[adW];exact hc) q
 rwa[lQ] at this
theorem agt {K:Nat} {e:TypeId} {a:Operand} {y:AV} {xs:List AV} (ha:aK s.ts a=y) (hc:jh y=some xs) (hk:s.free K) (hp:B.pk K=false) (hkx:K∉cM xs):aO E B (.box e a) s (s.set K (.flat e xs)) (.loc K 0) (some (K,true)):=aO.lay hk hp fun {F g φ tm h new} r=>by
 obtain ⟨v,h1,h2⟩:=r.val ha (fun e=>by subst e;cases hc)
 obtain ⟨cs,c1,c2⟩:=mc h2 hc;refine ⟨.ptr new 0,.cells e cs,?_,acr,Pe (c2.gb (afm hkx))⟩;show one tm a (xw new e)=_;unfold one;rw[h1];show xw new e v=_;unfold xw;rw[c1];rfl
theorem Y5 {K:Nat} {e:TypeId} {i:TI} (hi:E.ty.get e=some i) (hk:s.free K) (hp:B.pk K=false):aO E B (.alloc e) s (s.set K (.flat e (eC i.zero))) (.loc K 0) (some (K,true)):=aO.lay hk hp fun {F g φ tm h new} r=>by
 refine ⟨.ptr new 0,.cells e i.zero,?_,acr,Pe (jJ _)⟩;show DM E new e=_;unfold DM;rw[hi];rfl
def mV (sz:Nat):Nat->List AV->List (List AV)
 |0,_=> []
 |n+1,cs=>cs.take sz::mV sz n (cs.drop sz)
theorem LN {sz:Nat}:∀{n:Nat} {cs:List AV},cs.length=n*sz->(mV sz n cs).length=n/\(∀r∈mV sz n cs,r.length=sz)/\(mV sz n cs).flatten=cs
 |0,cs,hl=>by
  rw[Nat.zero_mul] at hl;rw[List.length_eq_zero_iff.1 hl];exact ⟨rfl,fun r hr=>(by cases hr),rfl⟩
 |n+1,cs,hl=>by
  rw[Nat.add_mul,Nat.one_mul] at hl;obtain ⟨a,b,c⟩:=LN (sz:=sz) (n:=n) (cs:=cs.drop sz) (by rw[List.length_drop];omega)
  refine ⟨by show (mV sz n (cs.drop sz)).length+1=_;rw[a],fun r hr=> ?_,?_⟩
  ·rcases List.mem_cons.1 (show r∈cs.take sz::mV sz n (cs.drop sz) from hr) with rfl|hr
   ·rw[List.length_take];omega
   ·exact b r hr
  ·show cs.take sz++(mV sz n (cs.drop sz)).flatten=cs;rw[c,List.take_append_drop]
def tY (z:List AV):Nat->List AV
 |0=> []
 |n+1=>z++tY z n
theorem AT {z:List SV} {x:List AV} (hz:VAs F g z x):∀n,VAs F g (rep z n) (tY x n)
 |0=>.nil
 |n+1=>hz.append (AT hz n)
theorem FD {place:Nat->Option (Nat×Nat)}:∀{m:List (Nat×List AV)} {xs ys:List AV},uI place xs m=some ys->ys.length=xs.length
 | [],_,_,hy=>by cases hy;rfl
 |p::rest,xs,ys,hy=>by
  obtain ⟨q,h1,hy⟩:=ae hy;obtain ⟨h2,hy⟩:=ar hy;rw[FD hy];rw[Bool.and_eq_true] at h2;have e1:p.2.length=q.2:=(beq_iff _ _).1 h2.1;have e2:q.1+q.2<=xs.length:=Nat.le_of_ble_eq_true h2.2;unfold cq;rw[List.length_append,List.length_append,List.length_take,List.length_drop,show Nat.add q.1 p.2.length=q.1+p.2.length from rfl];omega
theorem zg {ie:TI} (h:dq ie=true):ie.zero.length=ie.size:=by
 unfold dq at h;rw[Bool.and_eq_true,Bool.and_eq_true] at h;exact (beq_iff _ _).1 h.2.2
theorem DG (z:List AV):∀n,(tY z n).length=n*z.length
 |0=>by simp[tY]
 |n+1=>by show (z++tY z n).length=_;rw[List.length_append,DG z n,Nat.add_mul,Nat.one_mul,Nat.add_comm]
theorem oZ:∀l:List SV,(eC l).length=l.length
 | []=>rfl
 |v::l=>by show (eC l).length+1=_;rw[oZ l];rfl
def gm (E:Env) (t:TypeId):Option (TypeId×TI):=ai (E.ty.get t) fun i=>ai (jw i.desc) fun e=>ai (E.ty.get e) fun ie=>some (e,ie)
theorem hX {t:TypeId} {p:TypeId×TI} (h:gm E t=some p):∃i,E.ty.get t=some i/\jw i.desc=some p.1/\E.ty.get p.1=some p.2:=by
 obtain ⟨i,hi,h⟩:=ae h;obtain ⟨e,he,h⟩:=ae h;obtain ⟨ie,hie,h⟩:=ae h;cases h;exact ⟨i,hi,he,hie⟩
theorem FW {K:Nat} {t:TypeId} {len:Nat} {parts:Array (Nat×Operand)} {p:TypeId×TI} {m:List (Nat×List AV)} {ys:List AV} (hp':gm E t=some p) (hok:(dq p.2&&Nat.ble (Nat.mul len p.2.size) 16777216)=true) (hm:tj s.ts parts.toList=some m)
  (hy:uI (jx p.2.size) (tY (eC p.2.zero) len) m=some ys) (hk:s.free K) (hp:B.pk K=false) (hky:(cM ys).isEmpty=true):aO E B (.buildSlice t len parts) s (s.set K (.rows false p.1 p.2.size (mV p.2.size len ys))) (.ms K p.2.size 0 len) (some (K,true)):=aO.lay hk hp fun {F g φ tm h new} r=>by
 obtain ⟨i,hi,he,hie⟩:=hX hp';obtain ⟨k,k1,k2⟩:=zA r hm;obtain ⟨ws,w1,w2⟩:=xG k2 (AT (jJ (F:=F) (g:=g) p.2.zero) len) hy;have hok1:=(Bool.and_eq_true_iff.1 hok).1;have hlen:ys.length=len*p.2.size:=by rw[FD hy,DG,oZ,zg hok1]
 obtain ⟨c1,c2,c3⟩:=LN hlen;refine ⟨.sl new 0 len (.k len),.cells p.1 ws,?_,QA,xM (fun e=>by cases e) c2 (by rw[c1];exact ⟨Nat.le_refl _,by rw[w2.length,hlen]⟩) ?_⟩
 ·show ai (eE tm parts.toList) (fun pcs=>iq E new t len pcs)=_
  rw[k1];show iq E new t len k=_;unfold iq;rw[hi];show ai (jw i.desc) _=_;rw[he];show ai (E.ty.get p.1) _=_;rw[hie];show sel (dq p.2&&Nat.ble (Nat.mul len p.2.size) 16777216) (ai (gk (jx p.2.size) (rep p.2.zero len) k) fun cs=>some (SV.sl new 0 len (.k len),[(new,some (SO.cells p.1 cs))])) none=_
  rw[hok,w1];rfl
 ·rw[c1,c3,List.take_of_length_le (by rw[w2.length,hlen];exact Nat.le_refl _)]
  exact w2.fY hky
theorem Km {K:Nat} {t:TypeId} {a c:Operand} {p:TypeId×TI} {l m:Nat} {k1 k2:IntKind} {n1 n2:Int} (hp':gm E t=some p) (hok:dq p.2=true) (ha:aK s.ts a= .int k1 n1) (hc:aK s.ts c= .int k2 n2) (h1:n1=(l:Int)) (h2:n2=(m:Int)) (hl:l<=m) (hm:m<=1000000) (hk:s.free K) (hp:B.pk K=false) (hkz:(cM (eC p.2.zero)).isEmpty=true):
  aO E B (.makeSlice t a c) s (s.set K (.rows false p.1 p.2.size (List.replicate l (eC p.2.zero)))) (.ms K p.2.size 0 l) (some (K,true)):=aO.lay hk hp fun {F g φ tm h new} r=>by
 subst h1;subst h2;obtain ⟨i,hi,he,hie⟩:=hX hp';obtain ⟨v,v1,v2⟩:=r.val ha (by simp)
 obtain ⟨w,w1,w2⟩:=r.val hc (by simp)
 cases v2;cases w2;have hsz:=zg hok;have hrep:∀n,tY (eC p.2.zero) n=(List.replicate n (eC p.2.zero)).flatten:=fun n=>by
  induction n with
  |zero=>rfl
  |succ n ih=>show eC p.2.zero++tY _ n=_;rw[ih,List.replicate_succ,List.flatten_cons]
 have hlr:∀n,(rep p.2.zero n).length=n*p.2.size:=fun n=>by rw[(AT (F:=fun _=>none) (g:=.no) (jJ p.2.zero) n).length,DG,oZ,hsz]
 refine ⟨.sl new 0 l (.k m),.cells p.1 (rep p.2.zero m),?_,QA,xM (fun e=>by cases e) (fun r hr=>by rw[List.eq_of_mem_replicate hr,oZ,hsz]) (by rw[List.length_replicate];exact ⟨hl,hlr m⟩) ?_⟩
 ·show two tm a c (fun u v=>aC (fu u) (fu v) (qu E new t))=_
  unfold two;rw[v1,w1];show qu E new t l m=_;unfold qu;rw[hi];show ai (jw i.desc) _=_;rw[he];show ai (E.ty.get p.1) _=_;rw[hie];show sel (Nat.ble l m&&(Nat.ble m 1000000&&dq p.2)) (some (SV.sl new 0 l (.k m),[(new,some (SO.cells p.1 (rep p.2.zero m)))])) none=_;rw[(bj _ _).2 hl,(bj _ _).2 hm,hok];rfl
 ·rw[List.length_replicate,<-hrep];have agE:∀l m,l<=m->(rep p.2.zero m).take (l*p.2.size)=rep p.2.zero l:=by
   intro l;induction l with
   |zero=>intro m _;simp[rep]
   |succ l ih=>
    intro m hlm;obtain ⟨m',rfl⟩:∃m',m=m'+1:=⟨m-1,by omega⟩
    show (p.2.zero++rep p.2.zero m').take ((l+1)*p.2.size)=p.2.zero++rep p.2.zero l;rw[Nat.add_mul,Nat.one_mul,Nat.add_comm,<-hsz,List.take_length_add_append,hsz,ih m' (by omega)]
  rw[agE l m hl];exact AT (jJ _) l
theorem Qm {K:Nat} {t:TypeId} (hk:s.free K) (hp:B.pk K=false):aO E B (.makeMap t none) s (s.set K (.map [])) (.mp K) (some (K,true)):=aO.lay hk hp fun {F g φ tm h new} r=>by
 refine ⟨.mp new,.map [] 0,rfl,?_,fun hp' hh=> ?_⟩
 ·have:=VA.mp (F:=F) (g:=g.at K new (.k 0)) K;rwa[lQ] at this
 ·have:=cD.map (F:=F) (g:=g.at K new (.k 0)) (h:=hp') (K:=K) (es:= []) (ms:= []) (c:=0) (by rw[lQ];exact hh) .nil .nil
  rwa[lQ] at this
theorem Y1 {K:Nat} {t:TypeId} {a:Operand} {i:TI} {b:ByteArray} (hi:E.ty.get t=some i) (hd:ow i.desc=true) (ha:aK s.ts a= .str b) (hk:s.free K) (hp:B.pk K=false):aO E B (.range t a) s (s.set K (.iter b 0)) (.it K) (some (K,true)):=aO.lay hk hp fun {F g φ tm h new} r=>by
 obtain ⟨v,v1,v2⟩:=r.val ha (by simp)
 cases v2;refine ⟨.ptr new 0,.iN b 0,?_,?_,fun hp' hh=> ?_⟩
 ·show one tm a (mq E h.hp.get new t)=_;unfold one;rw[v1];show ai (E.ty.get t) (fun i=>ai (vN i.desc (.str b) h.hp.get) fun o=>some (SV.ptr new 0,[(new,some o)]))=_
  rw[hi];show ai (vN i.desc (.str b) h.hp.get) _=_;generalize i.desc=d at hd;cases d<;>first|(cases hd;done)|rfl
 ·have:=VA.it (F:=F) (g:=g.at K new (.k 0)) K;rwa[lQ] at this
 ·have:=cD.iter (F:=F) (g:=g.at K new (.k 0)) (h:=hp') (K:=K) (s:=b) (pos:=0) (by rw[lQ];exact hh)
  rwa[lQ] at this
end
section
variable {F F':Hf} {g g':Gb} {B:Bs} {φ:Nat->List Nat} {s s' s1:LS} {tm:Tf} {h:Hs} {hp:Hf} {E:Env} {nt:Nat} {all l:List Oper}
def n7 (s:LS) (sz:Nat) (y:AV) (R:List (List AV)):Prop:=y≠ .undef/\∀{B:Bs} {F:Hf} {g:Gb} {φ:Nat->List Nat} {tm:Tf} {h:Hs} {v:SV},Rel B F g φ s tm h->VA F g v y->∃xs,iX h.hp.get sz v=some (R.length,xs)/\VAs F .no xs R.flatten/\∀r∈R,r.length=sz
theorem UZ {sz id off n:Nat} {c:Cp} {e:TypeId} {svs:List SV} (hh:cF (hp id) off (n*sz)=some (e,svs)) (hl:off+n*sz<=svs.length):iX hp sz (.sl id off n c)=some (n,(svs.drop off).take (n*sz)):=by
 show dV hp sz (.sl id off n c)=_;unfold dV;refine mf (a:=n) rfl (b:=((svs.drop off).take (n*sz))) ?_;show eT hp id off (Nat.mul n sz)=_;unfold eT;rw[show cF (hp id) off (Nat.mul n sz)=some (e,svs) from hh];show sel (Nat.ble (Nat.add off (Nat.mul n sz)) svs.length) (some ((svs.drop off).take (n*sz))) none=_;rw[show Nat.ble (Nat.add off (Nat.mul n sz)) svs.length=true from Nat.ble_eq_true_of_le hl]
theorem YE {y:AV} {e:TypeId} {sz:Nat} {R:List (List AV)} (hy:ly y=some (e,sz,R)):n7 s sz y R:=⟨fun e=>(by subst e;cases hy),fun {B F g φ tm h v} r hv=>by
 rcases pF hv hy with ⟨rfl,rfl|rfl⟩|⟨id,off,c,e',svs,rfl,_,hF,hu,hl,hq⟩
 ·exact ⟨[],rfl,.nil,fun r hr=>by cases hr⟩
 ·exact ⟨[],rfl,.nil,fun r hr=>by cases hr⟩
 ·exact ⟨_,UZ (ib r.sub hF) hl,hq,hu⟩⟩
theorem aet {sz:Nat}:n7 s sz .aT []:=⟨by simp,fun {B F g φ tm h v} r hv=>by cases hv;exact ⟨[],rfl,.nil,fun r hr=>by cases hr⟩⟩
theorem JI {sz lo n:Nat} {α:Type} {Q:List (List α)} (hu:∀r∈Q,r.length=sz):((Q.drop lo).take n).flatten=(Q.flatten.drop (lo*sz)).take (n*sz):=by
 rw[je (fun r hr=>hu r (List.mem_of_mem_drop hr)),jI hu]
theorem aeu {K sz lo n:Nat} {z:Bool} {e:TypeId} {Q R:List (List AV)} (hb:lk K s.bs=some (.rows z e sz Q)) (hR:(Q.drop lo).take n=R) (hn:lo+n<=Q.length):n7 s sz (.ms K sz lo n) R:=⟨by simp,fun {B F g φ tm h v} r hv=>by
 subst hR;have q:=r.bx K _ hb;generalize φ K=fp at q;cases q with
 |cI hb'=>
  cases hv with
  |msN=>exact ⟨[],by simp;rfl,by simp;exact .nil,fun r hr=>by simp at hr⟩
  |msE=>exact ⟨[],by simp;rfl,by simp;exact .nil,fun r hr=>by simp at hr⟩
  |ms _ _ _ hb0=>rw[hb'] at hb0;cases hb0
 | @rows _ _ _ _ svs hb' hh hz hu hc q=>
  have hl:=eN hc;have hle:lo*sz+n*sz<=Q.length*sz:=by rw[<-Nat.add_mul];exact Nat.mul_le_mul_right _ hn
  have hlen:((Q.drop lo).take n).length=n:=by rw[List.length_take,List.length_drop];omega
  have hus:∀r∈(Q.drop lo).take n,r.length=sz:=fun r hr=>hu r (List.mem_of_mem_drop (List.mem_of_mem_take hr))
  have hq:VAs F .no ((svs.drop (lo*sz)).take (n*sz)) ((Q.drop lo).take n).flatten:=by
   have:=(q.drop (lo*sz)).take (n*sz);rwa[List.drop_take,List.take_take,Nat.min_eq_left (by omega),<-JI hu] at this
  cases hv with
  |msN _ hb0=>rw[hb'] at hb0;cases hb0
  |msE=>exact ⟨[],by simp;rfl,by simp;exact .nil,fun r hr=>by simp at hr⟩
  |ms _ _ _ _=>
   exact ⟨_,by rw[hlen];exact UZ (fN hh) (by omega),hq,hus⟩⟩
def gN (K:Nat) (x:AV):AV:=sel (ep K (bR x)) .undef x
def qR (K:Nat):List AV->List AV
 | []=> []
 |x::l=>gN K x::qR K l
theorem pB (K:Nat) (x:AV):K∉bR (gN K x):=by
 unfold gN;rw[aA];split
 ·exact fun hc=>by cases hc
 ·rename_i hx;exact fun hc=>hx ((l3 _ _).2 hc)
theorem uG {K:Nat} {x:AV} {v:SV} (q:VA F g v x):VA F g v (gN K x):=by
 unfold gN;rw[aA];split
 ·exact .undef v
 ·exact q
theorem FA {K:Nat}:∀{xs:List AV} {vs:List SV},VAs F g vs xs->VAs F g vs (qR K xs)
 | [],_,q=>by cases q;exact .nil
 |x::l,_,q=>by cases q with|cons h t=>exact .cons (uG h) (FA t)
theorem zd (K:Nat):∀(l:List AV),K∉cM (qR K l)
 | [],hc=>by cases hc
 |x::l,hc=>(List.mem_append.1 (show K∈bR (gN K x)++cM (qR K l) from hc)).elim (pB K x) (zd K l)
def Bx.df (K:Nat):Bx->Bx
 | .flat e cs=>.flat e (qR K cs)
 | .hole e s Q i x=>.hole e s Q i (gN K x)
 | .own e e' s Q o=>.own e e' s Q (D1 (gN K) o)
 |b=>b
def LS.df (s:LS) (K:Nat):LS:=⟨s.ts.map fun p=>(p.1,gN K p.2),s.bs.map fun p=>(p.1,p.2.df K)⟩
theorem Fz (s:LS) (K:Nat):(s.df K).free K:=by
 refine ⟨fun t x hx=> ?_,fun k b hne hb=> ?_⟩
 ·rw[show (s.df K).ts=s.ts.map fun p=>(p.1,gN K p.2) from rfl,iu] at hx
  obtain ⟨y,_,rfl⟩:=Option.map_eq_some_iff.1 hx;exact pB K y
 ·rw[show (s.df K).bs=s.bs.map fun p=>(p.1,p.2.df K) from rfl,iu] at hb
  obtain ⟨y,_,rfl⟩:=Option.map_eq_some_iff.1 hb;cases y with
  |flat e cs=>exact zd K cs
  |hole e s Q i x=>exact pB K x
  |own e e' s Q o=>cases o with|none=>exact fun hc=>by cases hc|some p=>exact pB K p.2
  |_=>exact fun hc=>by cases hc
theorem zY (r:Rel B F g φ s tm h) (K:Nat):Rel B F g φ (s.df K) tm h:=by
 have back:∀{k b'},lk k (s.df K).bs=some b'->∃b,lk k s.bs=some b/\b'=b.df K:=fun {k b'} hb=>by
  rw[show (s.df K).bs=s.bs.map fun p=>(p.1,p.2.df K) from rfl,iu] at hb
  obtain ⟨b,hb1,rfl⟩:=Option.map_eq_some_iff.1 hb;exact ⟨b,hb1,rfl⟩
 refine {r with tm:=fun t y hy hn=> ?_,bx:=fun k b hb=> ?_,dj:=fun k k' b b' hb hb'=> ?_,nf:=fun k b hb=> ?_,g7:=fun k b hb=> ?_}
 ·rw[show (s.df K).ts=s.ts.map fun p=>(p.1,gN K p.2) from rfl,iu] at hy
  obtain ⟨x,hx,rfl⟩:=Option.map_eq_some_iff.1 hy;by_cases hu:x= .undef
  ·subst hu;exact absurd rfl hn
  ·obtain ⟨v,v1,v2⟩:=r.tm t x hx hu;exact ⟨v,v1,uG v2⟩
 ·obtain ⟨b0,h0,rfl⟩:=back hb;have q:=r.bx k b0 h0;generalize φ k=fp at q ⊢;cases q with
  |flat hh q=>exact .flat hh (FA q)
  |cI hb1=>exact .cI hb1
  |rows hb1 hh hz hu hc q=>exact .rows hb1 hh hz hu hc q
  |map hh q1 q2=>exact .map hh q1 q2
  |iter hh=>exact .iter hh
  |hole hb1 hh hu hc q hi hv hx=>exact .hole hb1 hh hu hc q hi hv (uG hx)
  |jN hb1=>exact .jN hb1
  |own hb1 hh hc q nd ho=>
   refine .own hb1 hh hc q nd fun i x e=> ?_
   obtain ⟨y,e1,rfl⟩:=ot e;subst e1;obtain ⟨a,v,b,c⟩:=ho i y rfl;exact ⟨a,v,b,uG c⟩
 ·obtain ⟨c,hc,_⟩:=back hb;obtain ⟨c',hc',_⟩:=back hb';exact r.dj k k' c c' hc hc'
 ·obtain ⟨b0,h0,_⟩:=back hb;exact r.nf k b0 h0
 ·obtain ⟨b0,h0,_⟩:=back hb;exact r.g7 k b0 h0
theorem XE {K:Nat} {z:Bool} {e:TypeId} {sz:Nat} {Q:List (List AV)} (hb:lk K s.bs=some (.rows z e sz Q)):lk K (s.df K).bs=some (.rows z e sz Q):=by
 rw[show (s.df K).bs=s.bs.map fun p=>(p.1,p.2.df K) from rfl,iu,hb]
 rfl
theorem wY {e:TypeId} {m:Nat} {xs:List SV} {v w:SV} {t:TypeId} {i ie:TI} (hi:E.ty.get t=some i) (hd:jw i.desc=some e) (he:E.ty.get e=some ie) (hok:dq ie=true) (hw:iX hp ie.size w=some (m,xs)) (hm:m<=1000000) {new:Nat}:
  fK E hp new t v w=sel (Nat.beq m 0) (sel (wa v) (some (v,[])) none) (n5 v hp new e ie.size m xs):=by
 unfold fK;rw[cK hi,cK hd];unfold EF;rw[cK he,hok];show ai (iX hp ie.size w) (fun q=>sel (Nat.ble q.1 1000000) (sel (Nat.beq q.1 0) (sel (wa v) (some (v,[])) none) (n5 v hp new e ie.size q.1 q.2)) none)=_
 rw[cK hw];show sel (Nat.ble m 1000000) _ none=_;rw[show Nat.ble m 1000000=true from Nat.ble_eq_true_of_le hm]
theorem aaV {K sz n:Nat} {c:Cp} (h1:g.β K=true) (h2:g.κ K=c):VA F g (.sl (g.ρ K) 0 n c) (.ms K sz 0 n):=by
 have:=VA.ms (F:=F) (g:=g) (K:=K) sz 0 n h1;rw[Nat.zero_mul,h2] at this;cases c<;>exact this
theorem Sk {K new:Nat} (r:Rel B F g φ s tm h) (eX:h.hp.get new=none) (hlo:B.nx<=new) (hk:s.free K) (hpk:B.pk K=false) {e:TypeId} {Q P R:List (List AV)} {z z':Bool} {n:Nat} {v w:SV} {t:TypeId} {i ie:TI} {xs:List SV} (hi:E.ty.get t=some i) (hd:jw i.desc=some e) (he:E.ty.get e=some ie) (hok:dq ie=true)
  (hv:VA F g v (.ms K ie.size 0 n)) (hw:iX h.hp.get ie.size w=some (R.length,xs)) (hx:VAs F .no xs R.flatten) (hu:∀x∈R,x.length=ie.size) (hP:Q.take n=P) (hn:n<=Q.length) (hn6:n<=1000000) (hR:R.length<=1000000) (hz':z'=true->z=true/\n=Q.length) (hb:lk K s.bs=some (.rows z e ie.size Q)):
  ∃v' us,fK E h.hp.get new t v w=some (v',us)/\(∀h',Upd h us new h'\/(us= []/\h'=h)->Rel B F (rb g (some (K,false)) new us v') (pG φ (some (K,false)) new us) (s.set K (.rows z' e ie.size (P++R))) tm h')/\VA F (rb g (some (K,false)) new us v') v' (.ms K ie.size 0 (P++R).length)/\∀u∈us,u.1=new\/u.1∈φ K:=by
 have hPl:P.length=n:=by rw[<-hP,List.length_take];omega
 have hlen:(P++R).length=n+R.length:=by rw[List.length_append,hPl]
 have q:=r.bx K _ hb;have hsl:wa v=true:=by cases hv<;>rfl
 rw[wY hi hd he hok hw hR];by_cases hR0:R.length=0
 ·have hRn:R= []:=List.length_eq_zero_iff.1 hR0;refine ⟨v,[],?_,?_,by rw[hlen,hR0];exact hv,fun u hu=>(by cases hu)⟩
  ·rw[hR0];show sel (wa v) (some (v,[])) none=_;rw[hsl]
  ·have aiO:lp s (s.set K (.rows z' e ie.size (P++R))):=⟨fun t y hy=>.inr ⟨y,hy,WV.refl y⟩,fun k b' hb'=>by
    rw[show (s.set K (.rows z' e ie.size (P++R))).bs=(K,.rows z' e ie.size (P++R))::s.bs from rfl,bh] at hb';split at hb'
    ·rename_i ek;cases hb';subst ek;refine ⟨_,hb,fun F g h K fp q=> ?_⟩
     rw[hRn,List.append_nil];generalize hQ:Bx.rows z e ie.size Q=bb at q;cases q with
     |flat|map|iter|hole|own|jN=>cases hQ
     |cI hb0=>cases hQ;rw[<-hP];simp only[List.take_nil];exact .cI hb0
     |rows hb0 hh hz hu0 hc q=>
      cases hQ;have hl:=eN hc;have hle:n*ie.size<=Q.length*ie.size:=Nat.mul_le_mul_right _ hn;refine .rows hb0 hh (fun e0=> ?_) (fun r hr=>hu0 r ?_) ?_ ?_
      ·obtain ⟨z1,z2⟩:=hz' e0;rw[<-hP,z2,List.take_length];exact hz z1
      ·rw[<-hP] at hr;exact List.mem_of_mem_take hr
      ·rw[hPl];cases hκ:g.κ K with
       |k m=>rw[hκ] at hc;exact ⟨Nat.le_trans hn hc.1,hc.2⟩
       |u e'=>rw[hκ] at hc;exact ⟨hc.1,Nat.le_trans hle hc.2⟩
      ·rw[hPl,<-hP,je hu0];have:=q.take (n*ie.size);rwa[List.take_take,Nat.min_eq_left hle] at this
    ·exact ⟨b',hb',WB.refl b'⟩⟩
   have r1:=r.less aiO;intro h' hu;show Rel B F g φ _ tm h';rcases hu with ⟨u1,u2,u3,u4⟩|⟨_,rfl⟩
   ·exact {r1 with bx:=fun k b hb=>(r1.bx k b hb).gf (Hle.refl F) fun i _=>u1 i,sub:=fun id o ho=>(u1 id).trans (r1.sub id o ho),bd:=fun x hx=>(u1 x).trans (r1.bd x (Nat.le_trans u2 hx)),nx:=Nat.le_trans r1.nx u2,old:=fun x hx hp=>(u1 x).trans (r1.old x hx hp),lg:=fun x hx=>r1.lg x (u4 x hx)}
   ·exact r1
 rw[show Nat.beq R.length 0=false from by
  cases hx:Nat.beq R.length 0 with
  |false=>rfl
  |true=>exact absurd ((beq_iff _ _).1 hx) hR0]
 show ∃v' us,n5 v h.hp.get new e ie.size R.length xs=some (v',us)/\_;have hRne:P++R≠ []:=fun hc=>hR0 (by rw[(List.append_eq_nil_iff.1 hc).2];rfl)
 have hx2:xs.length=R.length*ie.size:=by rw[hx.length,qS hu]
 have hlt:=r.lt hb;generalize hφ:φ K=fp at q hlt;have hfo:∀i∈fp,∃b,lk K s.bs=some b/\i∈φ K:=fun i hi=>⟨_,hb,by rw[hφ];exact hi⟩
 have Rg:∀(us:List Up) (old:List SV),us≠ []->VAs F .no old P.flatten->old.length=n*ie.size->(∀x∈P,x.length=ie.size)->(h.ups us).hp.get new=some (.cells e (old++xs))->(∀x,x≠new->x∉fp->(h.ups us).hp.get x=h.hp.get x)->(∀x∈fp,(h.ups us).hp.get x=h.hp.get x\/(h.ups us).hp.get x=none)->(∀x∈(h.ups us).lg,x=new\/x∈fp\/x∈h.lg)->(∀u∈us,u.1=new\/u.1∈fp)->
   dP new us=true->(∀h',Upd h us new h'\/(us= []/\h'=h)->Rel B F (rb g (some (K,false)) new us (.sl new 0 (Nat.add n R.length) (.u e))) (pG φ (some (K,false)) new us) (s.set K (.rows z' e ie.size (P++R))) tm h')/\VA F (rb g (some (K,false)) new us (.sl new 0 (Nat.add n R.length) (.u e))) (.sl new 0 (Nat.add n R.length) (.u e)) (.ms K ie.size 0 (P++R).length)/\∀u∈us,u.1=new\/u.1∈fp:=fun us old hus o1 o2 o3 u1 u2 u2' u4 u5 hN=>by
  rw[Ag hN,FI hN];have hl:(old++xs).length=(P++R).length*ie.size:=by rw[List.length_append,o2,hx2,hlen,Nat.add_mul]
  refine ⟨fun h' hu=> ?_,by rw[hlen];exact QA,fun u hu=>u5 u hu⟩
  rcases hu with ⟨w1,w2,w3,w4⟩|⟨hc,_⟩
  rotate_left
  ·exact absurd hc hus
  refine r.chg (K:=K) (b':=.rows z' e ie.size (P++R)) (fo:=fp) (fp:= [new]) hfo (fun i hi=>.inr (by rw[List.mem_singleton.1 hi];exact ⟨eX,hlo⟩)) (fun x h1 h2=>by rw[w1];exact u2 x (fun e0=>h2 (by simp[e0])) h1) w2 (fun x hx=> ?_) (fun x hx=> ?_) (xM (fun _=>hRne) (fun x hx=>(List.mem_append.1 hx).elim (o3 x) (hu x)) (show pO e ie.size (P++R).length (old++xs).length (.u e) from ⟨rfl,by rw[hl];exact Nat.le_refl _⟩) ?_ _ (by rw[w1];exact u1)) (.inr ⟨hk,hpk,fun k hne=>Si hne⟩)
  ·rw[w1,u2 x (by omega) (fun hc=>by have:=hlt x hc;omega)]
   exact r.bd x (by omega)
  ·rcases u4 x (w4 x hx) with h1|h1|h1
   ·exact .inr (.inr (by simp[h1]))
   ·exact .inr (.inl h1)
   ·exact .inl h1
  ·rw[<-hl,List.take_length,List.flatten_append];exact o1.append hx
 cases q with
 |cI hb'=>
  have hv':v= .aT:=by
   cases hv with
   |msN=>rfl
   |msE _ _ h0=>cases h0
   |ms _ _ _ hb0=>rw[hb'] at hb0;cases hb0
  subst hv';have hn0:n=0:=Nat.le_zero.1 hn;have hP0:P= []:=by rw[<-hP];simp
  obtain ⟨r1,r2,r3⟩:=Rg [(new,some (.cells e xs))] [] (by simp) (by rw[hP0];exact .nil) (by rw[hn0,Nat.zero_mul];rfl) (fun x hx=>by rw[hP0] at hx;cases hx) (by rw[jq,if_pos rfl];rfl) (fun x hx _=>by rw[jq,if_neg hx]) (fun x hx=>by cases hx) (fun x hx=>by
   rw[C0] at hx;rcases List.mem_cons.1 hx with h1|h1
   ·exact .inl h1
   ·exact .inr (.inr h1)) (fun u hu=>.inl (by rw[List.mem_singleton.1 hu])) (rX List.mem_cons_self)
  rw[hn0,show Nat.add 0 R.length=R.length from Nat.zero_add _] at r1 r2;exact ⟨_,_,rfl,r1,r2,r3⟩
 | @rows _ _ _ _ svs hb' hh hz hu' hc q=>
  have hvs:v= .sl (g.ρ K) 0 n (g.κ K):=by
   cases hv with
   |msN s hb0=>rw[hb'] at hb0;cases hb0
   |msE _ _ h0=>cases h0
   |ms s lo n hb0=>rw[Nat.zero_mul];cases g.κ K<;>rfl
  have hl:=eN hc;have hle:n*ie.size<=Q.length*ie.size:=Nat.mul_le_mul_right _ hn;have o2:(svs.take (n*ie.size)).length=n*ie.size:=by rw[List.length_take];omega
  have o3:∀x∈P,x.length=ie.size:=fun x hx=>hu' x (by rw[<-hP] at hx;exact List.mem_of_mem_take hx)
  have o1:VAs F .no (svs.take (n*ie.size)) P.flatten:=by
   have:=q.take (n*ie.size);rw[List.take_take,Nat.min_eq_left hle,<-je hu',hP] at this;exact this
  have hold:eT h.hp.get (g.ρ K) 0 (Nat.mul n ie.size)=some (svs.take (n*ie.size)):=by
   unfold eT;rw[hh];show sel (Nat.ble (Nat.add 0 (Nat.mul n ie.size)) svs.length) (some ((svs.drop 0).take (n*ie.size))) none=_;rw[show Nat.ble (Nat.add 0 (Nat.mul n ie.size)) svs.length=true from Nat.ble_eq_true_of_le (by rw[show Nat.add 0 (Nat.mul n ie.size)=n*ie.size from Nat.zero_add _];omega)]
   rfl
  have hto:n5 v h.hp.get new e ie.size R.length xs=xS new e ie.size (g.ρ K) 0 n (g.κ K) R.length xs (e,svs) (svs.take (n*ie.size)):=by
   rw[hvs];show sk h.hp.get new e ie.size R.length xs (g.ρ K) 0 n (g.κ K)=_;unfold sk;rw[show Nat.ble n 1000000=true from Nat.ble_eq_true_of_le hn6];show sel (Gu n R.length (g.κ K)) _ _=_;rw[aA];split
   ·rename_i wi;rw[cK hold];cases hκ:g.κ K with
    |u e'=>rw[hκ] at wi;cases wi
    |k m=>
     rw[hκ] at wi;have wi:m<n+R.length:=Nat.le_of_ble_eq_true wi;show _=sel (Nat.ble (Nat.add n R.length) m) _ _;rw[show Nat.ble (Nat.add n R.length) m=false from by
      cases hx:Nat.ble (Nat.add n R.length) m with
      |false=>rfl
      |true=>exact absurd (Nat.le_of_ble_eq_true hx) (by show ¬n+R.length<=m;omega)]
   ·exact mf (by rw[hh];rfl) hold
  have hρ:g.ρ K<h.nx:=hlt _ (by simp)
  rw[hto];cases hκ:g.κ K with
  |u e'=>
   rw[hκ] at hc;obtain ⟨rfl,hl2⟩:=hc;have e1:xS new e' ie.size (g.ρ K) 0 n (.u e') R.length xs (e',svs) (svs.take (n*ie.size))=some (.sl new 0 (Nat.add n R.length) (.u e'),[(g.ρ K,none),(new,some (.cells e' (svs.take (n*ie.size)++xs)))]):=by
    show sel (Nat.ble (Nat.add 0 (Nat.mul n ie.size)) svs.length&&Nat.beq e' e') _ none=_;rw[show Nat.ble (Nat.add 0 (Nat.mul n ie.size)) svs.length=true from Nat.ble_eq_true_of_le (by rw[show Nat.add 0 (Nat.mul n ie.size)=n*ie.size from Nat.zero_add _];omega),show Nat.beq e' e'=true from (beq_iff _ _).2 rfl]
    rfl
   obtain ⟨r1,r2,r3⟩:=Rg [(g.ρ K,none),(new,some (.cells e' (svs.take (n*ie.size)++xs)))] _ (by simp) o1 o2 o3 (by
    show ((h.hp.set (g.ρ K) none).set new _).get new=_;rw[Tr.da,if_pos rfl]) (fun x hx hx'=>by
    show ((h.hp.set (g.ρ K) none).set new _).get x=_;rw[Tr.da,if_neg hx,Tr.da,if_neg (fun e0=>hx' (by simp[e0]))]) (fun x hx=>by
    have ex:x=g.ρ K:=by simpa using hx
    have hne:x≠new:=fun e0=>by rw[<-e0,ex,hh] at eX;cases eX
    show ((h.hp.set (g.ρ K) none).set new _).get x=_\/((h.hp.set (g.ρ K) none).set new _).get x=_;rw[Tr.da,if_neg hne,Tr.da,if_pos ex];exact .inr rfl) (fun x hx=>by
    have:x∈new::g.ρ K::h.lg:=hx;simpa using this) (fun u hu=>by
    rcases List.mem_cons.1 hu with rfl|hu
    ·exact .inr (by simp)
    ·exact .inl (by rw[List.mem_singleton.1 hu])) (rX (List.mem_cons_of_mem _ List.mem_cons_self))
   exact ⟨_,_,e1,r1,r2,r3⟩
  |k m=>
   rw[hκ] at hc;obtain ⟨hc1,hc2⟩:=hc;have e1:xS new e ie.size (g.ρ K) 0 n (.k m) R.length xs (e,svs) (svs.take (n*ie.size))=sel (Nat.ble (Nat.add n R.length) m) (sel (Nat.ble (Nat.add 0 (Nat.mul (Nat.add n R.length) ie.size)) svs.length) (some (.sl (g.ρ K) 0 (Nat.add n R.length) (.k m),[(g.ρ K,some (.cells e (bH svs (Nat.add 0 (Nat.mul n ie.size)) xs)))])) none) (mI new e (Nat.add n R.length) (svs.take (n*ie.size)++xs) []):=rfl;cases nX:Nat.ble (Nat.add n R.length) m with
   |false=>
    obtain ⟨r1,r2,r3⟩:=Rg [(new,some (.cells e (svs.take (n*ie.size)++xs)))] _ (by simp) o1 o2 o3 (by rw[jq,if_pos rfl]) (fun x hx _=>by rw[jq,if_neg hx]) (fun x hx=>by
     have ex:x=g.ρ K:=by simpa using hx
     have hne:x≠new:=fun e0=>by rw[<-e0,ex,hh] at eX;cases eX
     rw[jq,if_neg hne];exact .inl rfl) (fun x hx=>by
     rw[C0] at hx;rcases List.mem_cons.1 hx with h1|h1
     ·exact .inl h1
     ·exact .inr (.inr h1)) (fun u hu=>.inl (by rw[List.mem_singleton.1 hu])) (rX List.mem_cons_self)
    exact ⟨_,_,by rw[e1,nX];rfl,r1,r2,r3⟩
   |true=>
    have hm:n+R.length<=m:=Nat.le_of_ble_eq_true nX;have adu:(n+R.length)*ie.size<=svs.length:=by rw[hc2];exact Nat.mul_le_mul_right _ hm
    have hz0:Nat.add 0 (Nat.mul n ie.size)=n*ie.size:=Nat.zero_add _;have hl3:(svs.take (n*ie.size)++xs).length=(P++R).length*ie.size:=by rw[List.length_append,o2,hx2,hlen,Nat.add_mul]
    have hsl:(bH svs (n*ie.size) xs).length=svs.length:=by
     show (svs.take (n*ie.size)++xs++svs.drop (Nat.add (n*ie.size) xs.length)).length=_;rw[List.length_append,hl3,List.length_drop,hx2,hlen];have:Nat.add (n*ie.size) (R.length*ie.size)=(n+R.length)*ie.size:=by rw[Nat.add_mul];rfl
     rw[this];omega
    have htk:(bH svs (n*ie.size) xs).take ((P++R).length*ie.size)=svs.take (n*ie.size)++xs:=by
     show (svs.take (n*ie.size)++xs++svs.drop (Nat.add (n*ie.size) xs.length)).take ((P++R).length*ie.size)=_;rw[<-hl3,List.take_left]
    have hneq:g.ρ K≠new:=fun e0=>by rw[e0] at hh;rw[hh] at eX;cases eX
    have hN:dP new [(g.ρ K,some (SO.cells e (bH svs (n*ie.size) xs)))]=false:=wm fun u hu=>by rw[List.mem_singleton.1 hu];exact hneq
    have hφe:(fun k=>if k=K then [g.ρ K] else φ k)=φ:=by
     funext k;by_cases hk:k=K
     ·rw[if_pos hk,hk,hφ]
     ·rw[if_neg hk]
    refine ⟨.sl (g.ρ K) 0 (Nat.add n R.length) (.k m),[(g.ρ K,some (.cells e (bH svs (n*ie.size) xs)))],?_,fun h' hu'=> ?_,?_,fun u hu=>.inr (by rw[List.mem_singleton.1 hu];simp)⟩
    ·rw[e1,nX,show Nat.ble (Nat.add 0 (Nat.mul (Nat.add n R.length) ie.size)) svs.length=true from Nat.ble_eq_true_of_le (by rw[show Nat.add 0 (Nat.mul (Nat.add n R.length) ie.size)=(n+R.length)*ie.size from Nat.zero_add _];exact adu),hz0]
    ·rcases hu' with ⟨w1,w2,w3,w4⟩|⟨hc,_⟩
     rotate_left
     ·cases hc
     rw[nE hN,wU hN,<-hφe];refine r.chg (K:=K) (b':=.rows z' e ie.size (P++R)) (fo:= [g.ρ K]) (fp:= [g.ρ K]) hfo (fun i hi=>.inl hi) (fun x h1 _=>by rw[w1,jq,if_neg (fun e0=>h1 (by simp[e0]))]) w2 (fun x hx=> ?_) (fun x hx=> ?_) ?_ (.inl rfl)
     ·rw[w1,jq,if_neg (by omega)]
      exact r.bd x (by omega)
     ·have:=w4 x hx;rw[C0] at this;rcases List.mem_cons.1 this with h1|h1
      ·exact .inr (.inl (by simp[h1]))
      ·exact .inl h1
     ·refine .rows hb' (by rw[w1,jq,if_pos rfl]) (fun _=>hRne) (fun x hx=>(List.mem_append.1 hx).elim (o3 x) (hu x)) (by rw[hκ,hlen];exact ⟨hm,by rw[hsl];exact hc2⟩) ?_
      rw[htk,List.flatten_append];exact o1.append hx
    ·rw[nE hN,hlen];exact aaV hb' hκ
theorem A6 {c:Call} {a b:Operand} {t1 t2:TypeId} {K n:Nat} {p:TypeId×TI} {Q P R:List (List AV)} {z z':Bool} {i2:TI} {y:AV} (iL:c.callee= .builtin .append) (gK:c.args.toList= [a,b]) (mM:c.argTypes.toList= [t1,t2]) (hp':gm E t1=some p) (hok:dq p.2=true) (hi2:E.ty.get t2=some i2) (eV:kf i2.desc=true)
  (ha:∀{F:Hf} {g:Gb} {φ:Nat->List Nat} {tm:Tf} {h:Hs},Rel B F g φ s tm h->∃v,aI tm a=some v/\VA F g v (.ms K p.2.size 0 n)) (hb:aK s.ts b=y) (l9:n7 s p.2.size y R) (hP:Q.take n=P) (hn:n<=Q.length) (hn6:n<=1000000) (hR:R.length<=1000000) (hz':z'=true->z=true/\n=Q.length) (hbx:lk K s.bs=some (.rows z p.1 p.2.size Q)) (hpk:B.pk K=false):
  aO E B (.call c) s ((s.df K).set K (.rows z' p.1 p.2.size (P++R))) (.ms K p.2.size 0 (P++R).length) (some (K,false)):=aO.mk fun {F g φ tm h new} r h1 h2=>by
 obtain ⟨i,hi,he,hie⟩:=hX hp';obtain ⟨v,v1,v2⟩:=ha r;obtain ⟨w,w1,w2⟩:=r.val hb l9.1;obtain ⟨xs,x1,x2,x3⟩:=l9.2 r w2;obtain ⟨v',us,u1,r2,u2,u3⟩:=Sk (zY r K) h1 h2 (Fz s K) hpk hi he hie hok v2 x1 x2 x3 hP hn hn6 hR hz' (XE hbx);refine ⟨v',us,?_,u2,r2,fun u hu=>(u3 u hu).elim .inl fun hc=>.inr ⟨K,_,rfl,hbx,hc⟩,fun k b' hb'=> ?_,fun k hk=>p8 (hk.elim (fun ⟨b,hb⟩=>.inl ⟨b.df K,by rw[show (s.df K).bs=s.bs.map fun p=>(p.1,p.2.df K) from rfl,iu,hb];rfl⟩) fun ⟨l,hl⟩=>.inr (by cases hl;rfl))⟩
 ·show fc E tm h.hp.get new c=_;unfold fc;rw[iL];show ai (bE tm c.args.toList) (fun aa=>fM E h.hp.get new .append aa c.argTypes.toList)=_
  rw[gK,mM];have e1:bE tm [a,b]=some [v,w]:=by
   show aC (aI tm a) (aC (aI tm b) (some []) fun v l=>some (v::l)) (fun v l=>some (v::l))=_
   rw[v1,w1];rfl
  rw[e1];show ai (E.ty.get t2) (fun i=>sel (kf i.desc) (fK E h.hp.get new t1 v w) none)=_
  rw[cK hi2,eV];exact u1
 ·rw[show ((s.df K).set K (.rows z' p.1 p.2.size (P++R))).bs=(K,.rows z' p.1 p.2.size (P++R))::(s.df K).bs from rfl,bh] at hb';by_cases e:k=K
  ·subst e;exact .inl ⟨_,hbx⟩
  ·rw[if_neg e,show (s.df K).bs=s.bs.map fun p=>(p.1,p.2.df K) from rfl,iu] at hb'
   obtain ⟨b0,h0,_⟩:=Option.map_eq_some_iff.1 hb';exact .inl ⟨b0,h0⟩
theorem W1 {c:Call} {a b:Operand} {t1 t2:TypeId} {K n:Nat} {p:TypeId×TI} {Q P R:List (List AV)} {z z':Bool} {i2:TI} {y:AV} (iL:c.callee= .builtin .append) (gK:c.args.toList= [a,b]) (mM:c.argTypes.toList= [t1,t2]) (hp':gm E t1=some p) (hok:dq p.2=true) (hi2:E.ty.get t2=some i2) (eV:kf i2.desc=true)
  (ha:aK s.ts a= .ms K p.2.size 0 n) (hb:aK s.ts b=y) (l9:n7 s p.2.size y R) (hP:Q.take n=P) (hn:n<=Q.length) (hn6:n<=1000000) (hR:R.length<=1000000) (hz':z'=true->z=true/\n=Q.length) (hbx:lk K s.bs=some (.rows z p.1 p.2.size Q)) (hpk:B.pk K=false):
  aO E B (.call c) s ((s.df K).set K (.rows z' p.1 p.2.size (P++R))) (.ms K p.2.size 0 (P++R).length) (some (K,false)):=A6 iL gK mM hp' hok hi2 eV (fun r=>r.val ha (by simp)) hb l9 hP hn hn6 hR hz' hbx hpk
theorem Qr {c:Call} {a b:Operand} {t1 t2:TypeId} {K:Nat} {p:TypeId×TI} {R:List (List AV)} {z':Bool} {i2:TI} {y:AV} (iL:c.callee= .builtin .append) (gK:c.args.toList= [a,b]) (mM:c.argTypes.toList= [t1,t2]) (hp':gm E t1=some p) (hok:dq p.2=true) (hi2:E.ty.get t2=some i2) (eV:kf i2.desc=true)
  (ha:aK s.ts a= .aT) (hb:aK s.ts b=y) (l9:n7 s p.2.size y R) (hR:R.length<=1000000) (hbx:lk K s.bs=some (.rows true p.1 p.2.size [])) (hpk:B.pk K=false):
  aO E B (.call c) s ((s.df K).set K (.rows z' p.1 p.2.size ([]++R))) (.ms K p.2.size 0 ([]++R).length) (some (K,false)):=A6 (Q:= []) (n:=0) iL gK mM hp' hok hi2 eV (fun {F g φ tm h} r=>by
   obtain ⟨v,v1,v2⟩:=r.val ha (by simp)
   have q:=r.bx K _ hbx;generalize φ K=fp at q;cases v2;cases q with
   |cI hb0=>exact ⟨_,v1,.msN _ hb0⟩
   |rows _ _ hz=>exact absurd rfl (hz rfl)) hb l9 rfl (Nat.le_refl _) (Nat.zero_le _) hR (fun _=>⟨rfl,rfl⟩) hbx hpk
end
section
variable {F F':Hf} {g g':Gb} {B:Bs} {φ:Nat->List Nat} {s s' s1:LS} {tm:Tf} {h:Hs} {hp:Hf} {E:Env} {nt:Nat} {all l:List Oper}
theorem ql {t:TypeId} {i:TI} {id off:Nat} {e:TypeId} {svs ws:List SV} {v:SV} (hi:E.ty.get t=some i) (hw:v.cells=some ws) (hh:hp id=some (.cells e svs)) (hl:(Nat.beq ws.length i.size&&Nat.ble (Nat.add off ws.length) svs.length)=true):unit (iW E hp t v (.ptr id off))=some (.tup [],[(id,some (.cells e (bH svs off ws)))]):=by
 show unit (pI (E.ty.get t) v.cells (j4 (hp id)) (fun i xs p=>sel (Nat.beq xs.length i.size&&Nat.ble (Nat.add off xs.length) p.2.length) (some [(id,some (SO.cells p.1 (bH p.2 off xs)))]) none))=_
 rw[hi,hw,hh];show unit (sel (Nat.beq ws.length i.size&&Nat.ble (Nat.add off ws.length) svs.length) (some [(id,some (SO.cells e (bH svs off ws)))]) none)=_;rw[hl];rfl
theorem Y0 {t:TypeId} {a c:Operand} {i:TI} {K off:Nat} {e:TypeId} {y:AV} {cs xs:List AV} (hi:E.ty.get t=some i) (ha:aK s.ts a= .loc K off) (hc:aK s.ts c=y) (hx:jh y=some xs) (hb:lk K s.bs=some (.flat e cs)) (hl:(Nat.beq xs.length i.size&&Nat.ble (Nat.add off xs.length) cs.length)=true):
  aO E B (.store t a c) s (s.set K (.flat e (cq cs off xs))) (.tup []) (some (K,false)):=aO.wr hb fun {F g φ tm h new} r=>by
 obtain ⟨va,a1,a2⟩:=r.val ha (by simp)
 obtain ⟨vc,c1,c2⟩:=r.val hc (fun e=>by subst e;cases hx)
 obtain ⟨ws,w1,w2⟩:=mc c2 hx;have hq:=r.bx K _ hb;generalize hfp:φ K=fp at hq ⊢;cases hq with
 | @flat _ _ svs hh q=>
  cases a2;refine ⟨.tup [],.cells e (bH svs off ws),?_,.tup .nil,rfl,fun hp' hh'=>.flat hh' (jF q w2 off)⟩
  show two tm a c (fun a v=>unit (iW E h.hp.get t v a))=_
  unfold two;rw[a1,c1];exact ql hi w1 hh (by rw[w2.length,q.length];exact hl)
theorem U8 {α:Type} {sz j:Nat} {Q:List (List α)} {R:List α} (hu:∀r∈Q,r.length=sz) (hj:Q[j]? =some R):Q.flatten.drop (j*sz)=R++Q.flatten.drop (j*sz+sz):=by
 have hlt:j<Q.length:=(List.getElem?_eq_some_iff.1 hj).1;have he:Q[j]=R:=(List.getElem?_eq_some_iff.1 hj).2;rw[show j*sz+sz=(j+1)*sz by rw[Nat.add_mul,Nat.one_mul],<-jI hu,<-jI hu,List.drop_eq_getElem_cons hlt,List.flatten_cons,he]
theorem Z1 {α:Type} {sz j:Nat} {Q:List (List α)} {R':List α} (hu:∀r∈Q,r.length=sz) (hlt:j<Q.length):(Q.set j R').flatten=Q.flatten.take (j*sz)++R'++Q.flatten.drop (j*sz+sz):=by
 rw[List.set_eq_take_append_cons_drop,if_pos hlt,List.flatten_append,List.flatten_cons,je hu,jI hu,Nat.add_mul,Nat.one_mul,List.append_assoc]
theorem nZ {sz j f:Nat} {Q:List (List AV)} {R xs:List AV} (hu:∀r∈Q,r.length=sz) (hj:Q[j]? =some R) (hf:f+xs.length<=sz):(Q.set j (cq R f xs)).flatten=cq Q.flatten (j*sz+f) xs:=by
 have hlt:j<Q.length:=(List.getElem?_eq_some_iff.1 hj).1;have hR:R.length=sz:=hu R (List.mem_of_getElem? hj);rw[Z1 hu hlt];unfold cq;have e1:Q.flatten.take (j*sz+f)=Q.flatten.take (j*sz)++R.take f:=by
  rw[List.take_add,U8 hu hj,List.take_append_of_le_length (by omega)]
 have e2:Q.flatten.drop (Nat.add (j*sz+f) xs.length)=R.drop (Nat.add f xs.length)++Q.flatten.drop (j*sz+sz):=by
  rw[show Nat.add (j*sz+f) xs.length=j*sz+(f+xs.length) from Nat.add_assoc _ _ _,<-List.drop_drop,U8 hu hj,List.drop_append_of_le_length (by omega)]
  rfl
 rw[e1,e2];simp[List.append_assoc]
theorem nQ {vs ws:List SV} {off N:Nat} (h1:off+ws.length<=N) (h2:N<=vs.length):(bH vs off ws).take N=bH (vs.take N) off ws:=by
 show (vs.take off++ws++vs.drop (off+ws.length)).take N=(vs.take N).take off++ws++(vs.take N).drop (off+ws.length);have hl:(vs.take off++ws).length=off+ws.length:=by rw[List.length_append,List.length_take,Nat.min_eq_left (by omega)]
 rw[List.take_append,List.take_of_length_le (by omega),hl,List.drop_take,List.take_take,Nat.min_eq_left (by omega)]
theorem nR {vs ws:List SV} {off:Nat} (h1:off+ws.length<=vs.length):(bH vs off ws).length=vs.length:=by
 show (vs.take off++ws++vs.drop (off+ws.length)).length=_;rw[List.length_append,List.length_append,List.length_take,List.length_drop,Nat.min_eq_left (by omega)]
 omega
theorem ng {R xs:List AV} {f:Nat} (h1:f+xs.length<=R.length):(cq R f xs).length=R.length:=by
 unfold cq;rw[List.length_append,List.length_append,List.length_take,List.length_drop,Nat.min_eq_left (by omega),show Nat.add f xs.length=f+xs.length from rfl]
 omega
theorem Nx {t:TypeId} {a c:Operand} {i:TI} {K sz j f:Nat} {z:Bool} {e:TypeId} {y:AV} {Q:List (List AV)} {R xs:List AV} (hi:E.ty.get t=some i) (ha:aK s.ts a= .el K sz j f) (hc:aK s.ts c=y) (hx:jh y=some xs) (hkx:(cM xs).isEmpty=true) (hb:lk K s.bs=some (.rows z e sz Q)) (hj:Q[j]? =some R) (hl:(Nat.beq xs.length i.size&&Nat.ble (Nat.add f xs.length) sz)=true):
  aO E B (.store t a c) s (s.set K (.rows z e sz (Q.set j (cq R f xs)))) (.tup []) (some (K,false)):=aO.wr hb fun {F g φ tm h new} r=>by
 rw[Bool.and_eq_true] at hl;have hs:xs.length=i.size:=(beq_iff _ _).1 hl.1;have hf:f+xs.length<=sz:=Nat.le_of_ble_eq_true hl.2;obtain ⟨va,a1,a2⟩:=r.val ha (by simp)
 obtain ⟨vc,c1,c2⟩:=r.val hc (fun e=>by subst e;cases hx)
 obtain ⟨ws,w1,w2⟩:=mc c2 hx;have hq:=r.bx K _ hb;generalize hfp:φ K=fp at hq ⊢;have hlt:j<Q.length:=(List.getElem?_eq_some_iff.1 hj).1;cases hq with
 |cI=>cases hlt
 | @rows _ _ _ _ svs hb' hh hz hu eB q=>
  cases a2;have hlen:=eN eB;have hjs:j*sz+sz<=Q.length*sz:=by
   have:(j+1)*sz<=Q.length*sz:=Nat.mul_le_mul_right _ (by omega)
   rw[Nat.add_mul,Nat.one_mul] at this;exact this
  have hR:R.length=sz:=hu R (List.mem_of_getElem? hj);have hwl:=w2.length;refine ⟨.tup [],.cells e (bH svs (j*sz+f) ws),?_,.tup .nil,rfl,fun hp' hh'=>.rows hb' hh' (fun hz0=> ?_) (fun r hr=> ?_) ?_ ?_⟩
  ·show two tm a c (fun a v=>unit (iW E h.hp.get t v a))=_
   unfold two;rw[a1,c1];refine ql hi w1 hh ?_;rw[hwl,Bool.and_eq_true];exact ⟨hl.1,Nat.ble_eq_true_of_le (show j*sz+f+xs.length<=svs.length by omega)⟩
  ·intro hc;have:=congrArg List.length hc;rw[List.length_set] at this;rw[show Q.length=0 from this] at hlt;cases hlt
  ·rcases List.mem_or_eq_of_mem_set hr with hr|rfl
   ·exact hu r hr
   ·rw[ng (by omega)];exact hR
  ·rw[List.length_set,nR (by omega)];exact eB
  ·rw[List.length_set,nZ hu hj hf,nQ (by omega) hlen]
   exact jF q (w2.fY hkx) _
theorem Ek {sz f:Nat}:∀{Q:List (List AV)} {j:Nat} {R:List AV} {x:AV},(∀r∈Q,r.length=sz)->Q[j]? =some R->R[f]? =some x->Q.flatten[j*sz+f]? =some x
 | [],j,R,x,_,h,_=>by cases h
 |r::Q,0,R,x,hu,h,hx=>by
  have e:r=R:=by simpa using h
  subst e;rw[Nat.zero_mul,Nat.zero_add,List.flatten_cons,List.getElem?_append_left (List.getElem?_eq_some_iff.1 hx).1];exact hx
 |r::Q,j+1,R,x,hu,h,hx=>by
  have h:Q[j]? =some R:=h;have hr:r.length=sz:=hu r (by simp)
  rw[List.flatten_cons,List.getElem?_append_right (by rw[hr,Nat.add_mul];omega),hr]
  have:=Ek (fun r hr=>hu r (by simp[hr])) h hx
  rw[show (j+1)*sz+f-sz=j*sz+f from by rw[Nat.add_mul];omega]
  exact this
theorem FV {t:TypeId} {a c:Operand} {i:TI} {K sz j f:Nat} {e:TypeId} {y x0:AV} {Q:List (List AV)} {x:AV} (hi:E.ty.get t=some i) (ha:aK s.ts a= .el K sz j f) (hc:aK s.ts c=y) (hx:jh y=some [x]) (hb:lk K s.bs=some (.hole e sz Q (j*sz+f) x0)) (hun:Q.flatten[j*sz+f]? =some .undef) (hl:Nat.beq 1 i.size=true):
  aO E B (.store t a c) s (s.set K (.hole e sz Q (j*sz+f) x)) (.tup []) (some (K,false)):=aO.wr hb fun {F g φ tm h new} r=>by
 obtain ⟨va,a1,a2⟩:=r.val ha (by simp)
 obtain ⟨vc,c1,c2⟩:=r.val hc (fun e=>by subst e;cases hx)
 obtain ⟨ws,w1,w2⟩:=mc c2 hx;have hq:=r.bx K _ hb;generalize hfp:φ K=fp at hq ⊢;cases hq with
 | @hole _ _ _ _ _ svs v hb' hh hu eB q hi0 hv hx0=>
  cases a2;have hlen:=eN eB;cases w2 with|cons hw1 hw2=>
  rename_i w ws';cases hw2;have hlt:j*sz+f<svs.length:=by omega
  refine ⟨.tup [],.cells e (bH svs (j*sz+f) [w]),?_,.tup .nil,rfl,fun hp' hh'=>.hole (v:=w) hb' hh' hu ?_ ?_ hi0 ?_ hw1⟩
  ·show two tm a c (fun a v=>unit (iW E h.hp.get t v a))=_
   unfold two;rw[a1,c1];refine ql hi w1 hh ?_;rw[Bool.and_eq_true];exact ⟨hl,Nat.ble_eq_true_of_le (show j*sz+f+1<=svs.length by omega)⟩
  ·rw[nR (by simp;omega)];exact eB
  ·rw[nQ (by simp;omega) hlen]
   have:=jF q (VAs.one (F:=F) (g:=.no) (.undef w)) (j*sz+f);have e0:cq Q.flatten (j*sz+f) [.undef]=Q.flatten:=by
    obtain ⟨hlt,he⟩:=List.getElem?_eq_some_iff.1 hun;show Q.flatten.take (j*sz+f)++ [.undef]++Q.flatten.drop (j*sz+f+1)=Q.flatten;rw[<-he,List.append_assoc];show Q.flatten.take (j*sz+f)++(Q.flatten[j*sz+f]::Q.flatten.drop (j*sz+f+1))=Q.flatten;rw[<-List.drop_eq_getElem_cons hlt,List.take_append_drop]
   rwa[e0] at this
  ·show (svs.take (j*sz+f)++ [w]++svs.drop (j*sz+f+1))[j*sz+f]? =some w;have hl:(svs.take (j*sz+f)).length=j*sz+f:=by rw[List.length_take];omega
   rw[List.append_assoc,List.getElem?_append_right (by rw[hl];exact Nat.le_refl _),hl,Nat.sub_self]
   rfl
theorem gT.U3 {hp:Hf} {e:TypeId} {sz:Nat} {w:SV}:∀{vs:List SV} {Q:List (Option (List (List AV)))} {fs:List (List Nat)} {i:Nat},gT F hp e sz vs Q fs->Q[i]? =some none->gT F hp e sz (vs.set i w) Q fs
 |_,_,_,i,.nil,h=>by cases h
 |_,_,_,0,.cons q t,h=>by
  simp only[List.getElem?_cons_zero,Option.some.injEq] at h;subst h;cases q;exact .cons (.any w) t
 |_,_,_,i+1,.cons q t,h=>.cons q (t.U3 (by simpa using h))
theorem PX {vs:List SV} {i:Nat} {w:SV} (h:i<vs.length):bH vs i [w]=vs.set i w:=by
 rw[List.set_eq_take_append_cons_drop,if_pos h];show vs.take i++ [w]++vs.drop (i+1)=_;simp
theorem Ny {t:TypeId} {a c:Operand} {i:TI} {K sz j f:Nat} {e e':TypeId} {y x0:AV} {Q:List (Option (List (List AV)))} {x:AV} (hi:E.ty.get t=some i) (ha:aK s.ts a= .el K 1 j f) (hc:aK s.ts c=y) (hx:jh y=some [x]) (hb:lk K s.bs=some (.own e e' sz Q (some (j*1+f,x0)))) (hl:Nat.beq 1 i.size=true):
  aO E B (.store t a c) s (s.set K (.own e e' sz Q (some (j*1+f,x)))) (.tup []) (some (K,false)):=aO.wrM hb fun {F g φ tm h new} r=>by
 obtain ⟨va,a1,a2⟩:=r.val ha (by simp)
 obtain ⟨vc,c1,c2⟩:=r.val hc (fun e=>by subst e;cases hx)
 obtain ⟨ws,w1,w2⟩:=mc c2 hx;have hq:=r.bx K _ hb;generalize hfp:φ K=fp at hq ⊢;cases hq with
 | @own _ _ _ _ _ svs fs hb' hh eB q nd ho=>
  cases a2;have hlen:=eN eB;cases w2 with|cons hw1 hw2=>
  rename_i w ws';cases hw2;obtain ⟨hQ,v0,hv0,_⟩:=ho _ _ rfl;have hlt:j*1+f<svs.length:=(List.getElem?_eq_some_iff.1 hv0).1;refine ⟨.tup [],.cells e (bH svs (j*1+f) [w]),?_,.tup .nil,by simp,fun hp' hh' hot=> ?_⟩
  ·show two tm a c (fun a v=>unit (iW E h.hp.get t v a))=_
   unfold two;rw[a1,c1];refine ql hi w1 hh ?_;rw[Bool.and_eq_true];exact ⟨hl,Nat.ble_eq_true_of_le (show j*1+f+1<=svs.length by omega)⟩
  ·rw[PX hlt] at hh';have nd':=List.nodup_cons.1 nd;refine .own hb' hh' (by rw[List.length_set];exact eB) ?_ nd fun i x' e0=> ?_
   ·rw[List.take_set];exact (q.gf (Hle.refl F) fun i hi=>hot i fun e0=>nd'.1 (e0 ▸ hi)).U3 hQ
   ·cases e0;exact ⟨hQ,w,by rw[List.getElem?_set,if_pos rfl,if_pos hlt],hw1⟩
theorem Kl {t:TypeId} {a c:Operand} {i:TI} {K sz j f:Nat} {z:Bool} {e:TypeId} {y:AV} {Q:List (List AV)} {R:List AV} {x:AV} (hi:E.ty.get t=some i) (ha:aK s.ts a= .el K sz j f) (hc:aK s.ts c=y) (hx:jh y=some [x]) (hb:lk K s.bs=some (.rows z e sz Q)) (hj:Q[j]? =some R) (hl:(Nat.beq 1 i.size&&Nat.ble (Nat.add f 1) sz)=true):
  aO E B (.store t a c) s (s.set K (.hole e sz (Q.set j (cq R f [.undef])) (j*sz+f) x)) (.tup []) (some (K,false)):=aO.wr hb fun {F g φ tm h new} r=>by
 rw[Bool.and_eq_true] at hl;have hs:1=i.size:=(beq_iff _ _).1 hl.1;have hf:f+1<=sz:=Nat.le_of_ble_eq_true hl.2;obtain ⟨va,a1,a2⟩:=r.val ha (by simp)
 obtain ⟨vc,c1,c2⟩:=r.val hc (fun e=>by subst e;cases hx)
 obtain ⟨ws,w1,w2⟩:=mc c2 hx;have hq:=r.bx K _ hb;generalize hfp:φ K=fp at hq ⊢;have hlt:j<Q.length:=(List.getElem?_eq_some_iff.1 hj).1;cases hq with
 |cI=>cases hlt
 | @rows _ _ _ _ svs hb' hh hz hu eB q=>
  cases a2;have hlen:=eN eB;have hjs:j*sz+sz<=Q.length*sz:=by
   have:(j+1)*sz<=Q.length*sz:=Nat.mul_le_mul_right _ (by omega)
   rw[Nat.add_mul,Nat.one_mul] at this;exact this
  have hR:R.length=sz:=hu R (List.mem_of_getElem? hj);cases w2 with|cons hw1 hw2=>
  rename_i w ws';cases hw2;refine ⟨.tup [],.cells e (bH svs (j*sz+f) [w]),?_,.tup .nil,rfl,fun hp' hh'=>.hole (v:=w) hb' hh' (fun r hr=> ?_) ?_ ?_ ?_ ?_ hw1⟩
  ·show two tm a c (fun a v=>unit (iW E h.hp.get t v a))=_
   unfold two;rw[a1,c1];refine ql hi w1 hh ?_;rw[Bool.and_eq_true];exact ⟨hl.1,Nat.ble_eq_true_of_le (show j*sz+f+1<=svs.length by omega)⟩
  ·rcases List.mem_or_eq_of_mem_set hr with hr|rfl
   ·exact hu r hr
   ·rw[ng (by simp;omega)];exact hR
  ·rw[List.length_set,nR (by simp;omega)];exact eB
  ·rw[List.length_set,nZ hu hj (by simpa using hf),nQ (by simp;omega) hlen]
   exact jF q (.one (.undef w)) _
  ·rw[List.length_set];omega
  ·show (svs.take (j*sz+f)++ [w]++svs.drop (j*sz+f+1))[j*sz+f]? =some w;rw[List.append_assoc,List.getElem?_append_right (by rw[List.length_take];omega),List.length_take,Nat.min_eq_left (by omega),Nat.sub_self]
   rfl
theorem aeL {c:Call} {a b:Operand} {t1 t2:TypeId} {K lo n m:Nat} {p:TypeId×TI} {z:Bool} {e:TypeId} {Q R Q':List (List AV)} {y:AV} (iL:c.callee= .builtin .copy) (gK:c.args.toList= [a,b]) (mM:c.argTypes.toList= [t1,t2]) (hp':gm E t1=some p) (hok:dq p.2=true)
  (ha:aK s.ts a= .ms K p.2.size lo n) (hb:aK s.ts b=y) (l9:n7 s p.2.size y R) (hn:lo+n<=Q.length) (hm:m=min R.length n) (hQ':Q'=Q.take lo++R.take m++Q.drop (lo+m)) (hbx:lk K s.bs=some (.rows z e p.2.size Q)) (hne:Q≠ []):
  aO E B (.call c) s (s.set K (.rows z e p.2.size Q')) (.int .i64 (m:Int)) (some (K,false)):=aO.wrO hbx fun {F g φ tm h new} r=>by
 obtain ⟨i,hi,he,hie⟩:=hX hp';obtain ⟨v,v1,v2⟩:=r.val ha (by simp)
 obtain ⟨w,w1,w2⟩:=r.val hb l9.1;obtain ⟨xs,x1,x2,x3⟩:=l9.2 r w2;have hq:=r.bx K _ hbx;generalize hfp:φ K=fp at hq ⊢;cases hq with
 |cI=>exact absurd rfl hne
 | @rows _ _ _ _ svs hb' hh hz hu eB q=>
  have hv:v= .sl (g.ρ K) (lo*p.2.size) n (kz (g.κ K) lo)\/(v= .sle/\n=0):=by
   cases v2 with
   |msN s hb0=>rw[hb'] at hb0;cases hb0
   |msE=>exact .inr ⟨rfl,rfl⟩
   |ms=>exact .inl rfl
  rcases hv with hv|⟨hv,hn0⟩
  rotate_left
  ·subst hv;subst hn0;have hm0:m=0:=by omega
   subst hm0;refine .inr ⟨.int .i64 (.lit (.ofNat 0)),?_,.int _ _,by rw[hQ',List.take_zero,List.append_nil,Nat.add_zero,List.take_append_drop]⟩
   show fc E tm h.hp.get new c=_;unfold fc;rw[iL];show ai (bE tm c.args.toList) (fun aa=>fM E h.hp.get new .copy aa c.argTypes.toList)=_
   rw[gK,mM];have e1:bE tm [a,b]=some [.sle,w]:=by
    show aC (aI tm a) (aC (aI tm b) (some []) fun v l=>some (v::l)) (fun v l=>some (v::l))=_
    rw[v1,w1];rfl
   rw[e1];show ku E h.hp.get t1 .sle w=_;unfold ku;rw[cK hi,cK he];unfold GH;rw[cK hie,hok];show aC (some 0) (iX h.hp.get p.2.size w) (fun nd q=>oE .sle h.hp.get p.2.size (sel (Nat.ble q.1 nd) q.1 nd) q.2)=_
   rw[mf rfl x1];show some (SV.int .i64 (.lit (.ofNat (sel (Nat.ble R.length 0) R.length 0))),[])=_;rw[aA];split
   ·rename_i hle;rw[Nat.le_zero.1 (Nat.le_of_ble_eq_true hle)]
   ·rfl
  subst hv;have hlen:=eN eB;have hmR:m<=R.length:=by omega
  have hmn:m<=n:=by omega
  have hx2:xs.length=R.length*p.2.size:=by rw[x2.length,qS x3]
  have hms:m*p.2.size<=R.length*p.2.size:=Nat.mul_le_mul_right _ hmR;have hxt:(xs.take (m*p.2.size)).length=m*p.2.size:=by rw[List.length_take];omega
  have wj:lo*p.2.size+m*p.2.size<=Q.length*p.2.size:=by rw[<-Nat.add_mul];exact Nat.mul_le_mul_right _ (by omega)
  have hQl:Q'.length=Q.length:=by rw[hQ',List.length_append,List.length_append,List.length_take,List.length_take,List.length_drop];omega
  have hfl:Q'.flatten=cq Q.flatten (lo*p.2.size) (R.take m).flatten:=by
   rw[hQ',List.flatten_append,List.flatten_append,je hu,jI hu];unfold cq;rw[qS (fun r hr=>x3 r (List.mem_of_mem_take hr)),List.length_take,Nat.min_eq_left hmR,Nat.add_mul]
   rfl
  refine .inl ⟨.int .i64 (.lit (.ofNat m)),.cells e (bH svs (lo*p.2.size) (xs.take (m*p.2.size))),?_,.int _ _,rfl,fun hp' hh'=>.rows hb' hh' (fun hz0 hc=> ?_) (fun r hr=> ?_) ?_ ?_⟩
  ·show fc E tm h.hp.get new c=_;unfold fc;rw[iL];show ai (bE tm c.args.toList) (fun aa=>fM E h.hp.get new .copy aa c.argTypes.toList)=_
   rw[gK,mM];have e1:bE tm [a,b]=some [.sl (g.ρ K) (lo*p.2.size) n (kz (g.κ K) lo),w]:=by
    show aC (aI tm a) (aC (aI tm b) (some []) fun v l=>some (v::l)) (fun v l=>some (v::l))=_
    rw[v1,w1];rfl
   rw[e1];show ku E h.hp.get t1 (.sl (g.ρ K) (lo*p.2.size) n (kz (g.κ K) lo)) w=_;unfold ku;rw[cK hi,cK he];unfold GH;rw[cK hie,hok];show aC (some n) (iX h.hp.get p.2.size w) (fun nd q=>oE (.sl (g.ρ K) (lo*p.2.size) n (kz (g.κ K) lo)) h.hp.get p.2.size (sel (Nat.ble q.1 nd) q.1 nd) q.2)=_
   rw[mf rfl x1];show tF h.hp.get p.2.size (sel (Nat.ble R.length n) R.length n) xs (g.ρ K) (lo*p.2.size)=_;have em:sel (Nat.ble R.length n) R.length n=m:=by
    rw[aA];split
    ·rename_i hle;have:=Nat.le_of_ble_eq_true hle;omega
    ·rename_i hle;have:¬R.length<=n:=fun hc=>hle (Nat.ble_eq_true_of_le hc)
     omega
   rw[em];unfold tF;rw[hh];show sel (Nat.ble (Nat.add (lo*p.2.size) (Nat.mul m p.2.size)) svs.length) (some (SV.int .i64 (.lit (.ofNat m)),[(g.ρ K,some (SO.cells e (bH svs (lo*p.2.size) (xs.take (Nat.mul m p.2.size)))))])) none=_;rw[show Nat.ble (Nat.add (lo*p.2.size) (Nat.mul m p.2.size)) svs.length=true from Nat.ble_eq_true_of_le (show lo*p.2.size+m*p.2.size<=svs.length by omega)]
   rfl
  ·have:=congrArg List.length hc;rw[hQl] at this;exact hne (List.length_eq_zero_iff.1 this)
  ·rw[hQ'] at hr;rcases List.mem_append.1 hr with hr|hr
   ·rcases List.mem_append.1 hr with hr|hr
    ·exact hu r (List.mem_of_mem_take hr)
    ·exact x3 r (List.mem_of_mem_take hr)
   ·exact hu r (List.mem_of_mem_drop hr)
  ·rw[hQl,nR (by omega)];exact eB
  ·rw[hQl,nQ (by omega) hlen,hfl]
   refine jF q ?_ _;rw[je x3];exact x2.take _
end
section
variable {F F':Hf} {g g':Gb} {B:Bs} {φ:Nat->List Nat} {s s' s1:LS} {tm:Tf} {h:Hs} {hp:Hf} {E:Env} {nt:Nat} {all l:List Oper}
def mX (ts:List (Nat×AV)):Option Operand->Option (Option Int)
 |none=>some none
 |some x=>(match aK ts x with| .int _ n=>some (some n)|_=>none)
theorem wW (r:Rel B F g φ s tm h) {o:Option Operand} {b:Option Int} {d n:Nat} (hb:mX s.ts o=some b) (hn:b.getD d=(n:Int)):∃c,dE tm o=some c/\c.getD d=n/\c.isSome=b.isSome/\∀m,c=some m->b=some (m:Int):=by
 cases o with
 |none=>
  cases hb;have h0:(d:Int)=(n:Int):=hn;exact ⟨none,rfl,(show d=n by omega),rfl,fun m hm=>by cases hm⟩
 |some x=>
  have hb:(match aK s.ts x with| .int _ n=>some (some n)|_=>none)=some b:=hb
  split at hb
  ·rename_i k m hv;cases hb;have hm:m=(n:Int):=hn;subst hm;obtain ⟨v,v1,v2⟩:=r.val hv (by simp)
   cases v2;refine ⟨some n,?_,rfl,rfl,fun m hm=>by cases hm;rfl⟩
   show ai (aI tm x) (fun v=>ai (fu v) fun n=>some (some n))=_
   rw[v1];rfl
  ·cases hb
theorem zp {t:TypeId} {a:Operand} {lo hi mx:Option Operand} {v:SV} {c1 c2 c3:Option Nat} {e:TypeId} {i ie:TI} (hi':E.ty.get t=some i) (hd:jw i.desc=some e) (he:E.ty.get e=some ie) (hv:aI tm a=some v) (h1:dE tm lo=some c1) (h2:dE tm hi=some c2) (h3:dE tm mx=some c3) (hm:Gk c2 c3=true) {new:Nat}:
  opA E (.slice t a lo hi mx) tm hp new=same (AN v E e c1 c2 c3):=by
 show one tm a (fun v=>pI (dE tm lo) (dE tm hi) (dE tm mx) fun l u m=>same (qn E t v l u m))=_
 unfold one;rw[hv,h1,h2,h3];show same (qn E t v c1 c2 c3)=_;unfold qn;rw[hi'];show same (sel (Gk c2 c3) (U0 i.desc E v c1 c2 c3) none)=_;rw[hm,j7 hd];show same (ai (E.ty.get e) fun _=>AN v E e c1 c2 c3)=_
 rw[he];rfl
theorem aao {id off n l u s':Nat} {c:Cp} {e e':TypeId} {svs:List SV} {rows:List (List AV)} (hF:cF (F id) off (rows.length*s')=some (e',svs)) (hu:∀r∈rows,r.length=s') (hl:off+rows.length*s'<=svs.length) (hq:VAs F .no ((svs.drop off).take (rows.length*s')) rows.flatten) (h1:l<=u) (h2:u<=rows.length) (hc:oX e u c):VA F g (mT id off l u s' c) (.slx e s' ((rows.drop l).take (u-l)))/\(l=0->VA F g (mT id off l u s' c) (.slice e s' ((rows.drop l).take (u-l)))):=by
 have hlen:((rows.drop l).take (u-l)).length=u-l:=by rw[List.length_take,List.length_drop];omega
 have hus:∀r∈(rows.drop l).take (u-l),r.length=s':=fun r hr=>hu r (List.mem_of_mem_drop (List.mem_of_mem_take hr))
 have hle:l*s'+(u-l)*s'<=rows.length*s':=by rw[<-Nat.add_mul];exact Nat.mul_le_mul_right _ (by omega)
 have hq2:VAs F .no ((svs.drop (off+l*s')).take ((u-l)*s')) ((rows.drop l).take (u-l)).flatten:=by
  have:=(hq.drop (l*s')).take ((u-l)*s');rwa[List.drop_take,List.take_take,List.drop_drop,Nat.min_eq_left (by omega),<-JI hu] at this
 unfold mT;rw[aA,aA];split
 ·rename_i e0;obtain rfl:=(beq_iff _ _).1 e0;have k1:=kU hF (Nat.le_refl _) (Nat.add_le_add_left (Nat.mul_le_mul_right _ h2) _);have k2:off+u*s'<=svs.length:=by rw[Nat.zero_mul] at hle;rw[Nat.sub_zero] at hle;omega
  have k3:u=((rows.drop 0).take (u-0)).length:=by rw[hlen,Nat.sub_zero]
  exact ⟨.slx k1 hc k3 hus k2 (by simpa using hq2),fun _=>.slice k1 hc k3 hus k2 (by simpa using hq2)⟩
 ·rename_i e0;have e0:l≠0:=fun h=>e0 ((beq_iff _ _).2 h)
  refine ⟨?_,fun h=>absurd h e0⟩
  split
  ·rename_i hlt;have hlt:l<u:=Nat.le_of_ble_eq_true hlt;refine .slx (kU hF (show off<=off+l*s' from Nat.le_add_right _ _) (show off+l*s'+(u-l)*s'<=off+rows.length*s' by omega)) ?_ (by rw[hlen];rfl) hus (show off+l*s'+(u-l)*s'<=svs.length by omega) hq2
   cases c with
   |k m=>exact (show u-l<=m-l from Nat.sub_le_sub_right hc l)
   |u e'=>exact hc
  ·rename_i hlt;have hul:u=l:=by
    have:¬l<u:=fun hc=>hlt (Nat.ble_eq_true_of_le hc)
    omega
   subst hul;rw[Nat.sub_self,List.take_zero];exact .sy e s'
def Ac (y:AV) (lo:Option Operand) (e s:Nat) (R:List (List AV)):AV:=
 match lo with
 |some _=>.slx e s R
 |none=>(match y with
  | .slx _ _ _=>.slx e s R
  |_=>.slice e s R)
theorem XP {y:AV} {lo:Option Operand} {e s:Nat}:VA F g .aT (Ac y lo e s []):=by
 unfold Ac;split
 ·exact .mD _ _
 ·split
  ·exact .mD _ _
  ·exact .iY _ _
theorem aaq {y:AV} {lo:Option Operand} {e s:Nat} {q:TypeId×Nat×List (List AV)} (hv:VA F g .sle y) (hy:ly y=some q):VA F g .sle (Ac y lo e s []):=by
 cases hv with
 |sy=>cases lo<;>exact .sy _ _
 |_=>cases hy
theorem afh {y:AV} {v:SV} {lo:Option Operand} {e s l:Nat} {R:List (List AV)} (h1:VA F g v (.slx e s R)) (h2:l=0->VA F g v (.slice e s R)) (hl:lo=none->l=0):VA F g v (Ac y lo e s R):=by
 unfold Ac;split
 ·exact h1
 ·split
  ·exact h1
  ·exact h2 (hl rfl)
theorem ok_slice {t:TypeId} {a:Operand} {lo hi:Option Operand} {p:TypeId×TI} {y:AV} {rows R:List (List AV)} {b1 b2:Option Int} {l u:Nat} (hp:gm E t=some p) (ha:aK s.ts a=y) (hy:ly y=some (p.1,p.2.size,rows)) (h1:mX s.ts lo=some b1) (h2:mX s.ts hi=some b2)
  (hb1:b1.getD 0=(l:Int)) (hb2:b2.getD (rows.length:Nat)=(u:Int)) (hlu:l<=u) (hum:u<=rows.length) (hR:(rows.drop l).take (u-l)=R):aO E B (.slice t a lo hi none) s s (Ac y lo p.1 p.2.size R) none:=aO.pure fun {F g φ tm h new} r=>by
 subst hR;obtain ⟨i,hi',he,hie⟩:=hX hp;obtain ⟨v,v1,v2⟩:=r.val ha (fun e=>by subst e;cases hy)
 obtain ⟨c1,d1,d2,d3,d4⟩:=wW (d:=0) r h1 hb1;obtain ⟨c2,f1,f2,f3,f4⟩:=wW (d:=rows.length) r h2 hb2;have z1:l=0->fB c1=true:=fun h=>by
  cases c1 with
  |none=>rfl
  |some x=>exact (beq_iff _ _).2 (by have:x=l:=d2;omega)
 have z2:u=0->fB c2=true:=fun h=>by
  cases c2 with
  |none=>rfl
  |some x=>exact (beq_iff _ _).2 (by have:x=u:=f2;omega)
 have go:=fun v (hv:aI tm a=some v)=>zp (new:=new) (hp:=h.hp.get) (mx:=none) (c3:=none) hi' he hie hv d1 f1 rfl rfl
 rcases pF v2 hy with ⟨rfl,rfl|rfl⟩|⟨id,off,c,e',svs,rfl,hct,hF,hu,hl,hq⟩
 ·have hu0:u=0:=Nat.le_zero.1 hum;have hl0:l=0:=by omega
  refine ⟨.aT,?_,by simpa using XP⟩
  rw[go _ v1];show same (sel (fB c1&&(fB c2&&true)) (some SV.aT) none)=_;rw[z1 hl0,z2 hu0];rfl
 ·have hu0:u=0:=Nat.le_zero.1 hum;have hl0:l=0:=by omega
  refine ⟨.sle,?_,by simpa using aaq v2 hy⟩
  rw[go _ v1];show same (sel (fB c1&&(fB c2&&true)) (some SV.sle) none)=_;rw[z1 hl0,z2 hu0];rfl
 ·have hcu:oX p.1 u c:=by
   cases c with
   |k m=>exact Nat.le_trans hum hct
   |u e'=>exact hct
  have hcut:=aao (g:=g) (n:=rows.length) hF hu hl hq hlu hum hcu;refine ⟨mT id off l u p.2.size c,?_,afh hcut.1 hcut.2 fun h0=> ?_⟩
  rotate_left
  ·subst h0;cases h1;have:(0:Int)=(l:Int):=hb1;omega
  rw[go _ v1];show same (jv E p.1 id off rows.length c c1 c2 none)=_;unfold jv;rw[cK hie,d2,f2];have e1:(oh c p.1&&(Nat.ble l u&&(Nat.ble u (reach c rows.length)&&Gj none u (reach c rows.length))))=true:=by
   have t1:oh c p.1=true:=by
    cases c with
    |k m=>rfl
    |u e'=>exact (beq_iff _ _).2 hct
   have t2:Nat.ble u (reach c rows.length)=true:=Nat.ble_eq_true_of_le (by
    cases c with
    |k m=>exact Nat.le_trans hum hct
    |u e'=>exact hum)
   rw[t1,(bj _ _).2 hlu,t2];rfl
  rw[e1];rfl
def GG:AV->Option (TypeId×Nat×List (List AV))
 | .slice e s rows=>some (e,s,rows)
 | .sln e s rows=>some (e,s,rows)
 | .slf e s rows=>some (e,s,rows)
 |_=>none
theorem NP {v:SV} {x:AV} {e:TypeId} {sz:Nat} {rows:List (List AV)} (q:VA F g v x) (hx:GG x=some (e,sz,rows)):(rows= []/\v= .aT)\/∃id off c e' svs,v= .sl id off rows.length c/\oX e rows.length c/\cF (F id) off (rows.length*sz)=some (e',svs)/\(∀r∈rows,r.length=sz)/\off+rows.length*sz<=svs.length/\VAs F .no ((svs.drop off).take (rows.length*sz)) rows.flatten:=by
 have hd:ly x=some (e,sz,rows):=by unfold GG at hx;split at hx<;>first|exact hx|cases hx
 rcases pF q hd with ⟨h1,h2|h2⟩|h
 ·exact .inl ⟨h1,h2⟩
 ·subst h2;cases q<;>cases hx
 ·exact .inr h
theorem WW {t:TypeId} {a:Operand} {hi mx:Operand} {p:TypeId×TI} {y:AV} {rows R:List (List AV)} {b2 b3:Int} {u:Nat} (hp:gm E t=some p) (ha:aK s.ts a=y) (hy:GG y=some (p.1,p.2.size,rows)) (h2:mX s.ts (some hi)=some (some b2)) (h3:mX s.ts (some mx)=some (some b3))
  (hb2:b2=(u:Int)) (hb3:b3=(u:Int)) (hum:u<=rows.length) (hR:rows.take u=R):aO E B (.slice t a none (some hi) (some mx)) s s (.slf p.1 p.2.size R) none:=aO.pure fun {F g φ tm h new} r=>by
 subst hR;subst hb2;subst hb3;obtain ⟨i,hi',he,hie⟩:=hX hp;obtain ⟨v,v1,v2⟩:=r.val ha (fun e=>by subst e;cases hy)
 have bnd:∀{o:Operand},mX s.ts (some o)=some (some (u:Int))->dE tm (some o)=some (some u):=fun {o} ho=>by
  obtain ⟨c,c1,c2,c3,c4⟩:=wW (d:=0) (n:=u) r ho rfl;cases c with
  |none=>cases c3
  |some m=>rw[c1];rw[show m=u from c2]
 have go:=fun v (hv:aI tm a=some v)=>zp (new:=new) (hp:=h.hp.get) (lo:=none) (c1:=none) hi' he hie hv rfl (bnd h2) (bnd h3) rfl
 have hlen:(rows.take u).length=u:=by rw[List.length_take];omega
 rcases NP v2 hy with ⟨rfl,rfl⟩|⟨id,off,c,e',svs,rfl,hct,hF,hu,hl,hq⟩
 ·have hu0:u=0:=Nat.le_zero.1 hum;subst hu0;refine ⟨.aT,?_,by simpa using VA.sA p.1 p.2.size⟩
  rw[go _ v1];rfl
 ·have hle:u*p.2.size<=rows.length*p.2.size:=Nat.mul_le_mul_right _ hum;refine ⟨.sl id off u (.k u),?_,.slf (kU hF (Nat.le_refl _) (Nat.add_le_add_left hle _)) hlen.symm (fun r hr=>hu r (List.mem_of_mem_take hr)) (by omega) ?_⟩
  ·rw[go _ v1];show same (jv E p.1 id off rows.length c none (some u) (some u))=_;unfold jv;rw[cK hie];have e1:(oh c p.1&&(Nat.ble 0 u&&(Nat.ble u (reach c rows.length)&&(Nat.ble u u&&Nat.ble u (reach c rows.length)))))=true:=by
    have t1:oh c p.1=true:=by
     cases c with
     |k m=>rfl
     |u e'=>exact (beq_iff _ _).2 hct
    have t2:Nat.ble u (reach c rows.length)=true:=Nat.ble_eq_true_of_le (by
     cases c with
     |k m=>exact Nat.le_trans hum hct
     |u e'=>exact hum)
    rw[t1,t2,(bj _ _).2 (Nat.zero_le u),(bj _ _).2 (Nat.le_refl u)];rfl
   show same (sel (oh c p.1&&(Nat.ble 0 u&&(Nat.ble u (reach c rows.length)&&(Nat.ble u u&&Nat.ble u (reach c rows.length))))) _ none)=_;rw[e1];rfl
  ·have:=hq.take (u*p.2.size);rw[List.take_take,Nat.min_eq_left hle] at this;rwa[je hu]
theorem Kh {c:Call} {a b:Operand} {t1 t2:TypeId} {i2:TI} {v w:SV} (iL:c.callee= .builtin .append) (gK:c.args.toList= [a,b]) (mM:c.argTypes.toList= [t1,t2]) (hi2:E.ty.get t2=some i2) (eV:kf i2.desc=true) (v1:aI tm a=some v) (w1:aI tm b=some w) {new:Nat}:opA E (.call c) tm hp new=fK E hp new t1 v w:=by
 show fc E tm hp new c=_;unfold fc;rw[iL];show ai (bE tm c.args.toList) (fun aa=>fM E hp new .append aa c.argTypes.toList)=_
 rw[gK,mM];have e1:bE tm [a,b]=some [v,w]:=by
  show aC (aI tm a) (aC (aI tm b) (some []) fun v l=>some (v::l)) (fun v l=>some (v::l))=_
  rw[v1,w1];rfl
 rw[e1];show ai (E.ty.get t2) (fun i=>sel (kf i.desc) (fK E hp new t1 v w) none)=_
 rw[cK hi2,eV]
theorem Qq {c:Call} {a b:Operand} {t1 t2 e0:TypeId} {K:Nat} {p:TypeId×TI} {Q R:List (List AV)} {i2:TI} {y:AV} (iL:c.callee= .builtin .append) (gK:c.args.toList= [a,b]) (mM:c.argTypes.toList= [t1,t2]) (hp':gm E t1=some p) (hok:dq p.2=true) (hi2:E.ty.get t2=some i2) (eV:kf i2.desc=true)
  (ha:aK s.ts a= .slf e0 p.2.size Q) (hb:aK s.ts b=y) (l9:n7 s p.2.size y R) (hR0:R≠ []) (hn6:Q.length<=1000000) (hR:R.length<=1000000) (hk:s.free K) (hpk:B.pk K=false):
  aO E B (.call c) s (s.set K (.rows true p.1 p.2.size (Q++R))) (.ms K p.2.size 0 (Q++R).length) (some (K,true)):=aO.lay hk hpk fun {F g φ tm h new} r=>by
 obtain ⟨i,hi,he,hie⟩:=hX hp';obtain ⟨v,v1,v2⟩:=r.val ha (by simp)
 obtain ⟨w,w1,w2⟩:=r.val hb l9.1;obtain ⟨xs,x1,x2,x3⟩:=l9.2 r w2;have hm0:R.length≠0:=fun h=>hR0 (List.length_eq_zero_iff.1 h)
 have key:∃old,n5 v h.hp.get new p.1 p.2.size R.length xs=some (.sl new 0 (Nat.add Q.length R.length) (.u p.1),[(new,some (.cells p.1 (old++xs)))])/\VAs F .no old Q.flatten/\∀r∈Q,r.length=p.2.size:=by
  cases v2 with
  |sA=>exact ⟨[],by rw[show Nat.add ([]:List (List AV)).length R.length=R.length from Nat.zero_add _];rfl,.nil,fun r hr=>by cases hr⟩
  | @slf _ id off n _ _ _ e' svs hF hn hu hl hq=>
   subst hn;refine ⟨(svs.drop off).take (Q.length*p.2.size),?_,hq,hu⟩;show sk h.hp.get new p.1 p.2.size R.length xs id off Q.length (.k Q.length)=_;unfold sk;rw[(bj _ _).2 hn6];show sel (Nat.ble (Nat.succ Q.length) (Nat.add Q.length R.length)) _ _=_;rw[(bj (Nat.succ Q.length) (Nat.add Q.length R.length)).2 (show Q.length+1<=Q.length+R.length by omega)]
   refine cK (a:=((svs.drop off).take (Q.length*p.2.size))) ?_;unfold eT;rw[show cF (h.hp.get id) off (Nat.mul Q.length p.2.size)=some (e',svs) from ib r.sub hF];show sel (Nat.ble (Nat.add off (Nat.mul Q.length p.2.size)) svs.length) (some ((svs.drop off).take (Q.length*p.2.size))) none=_;rw[(bj (Nat.add off (Nat.mul Q.length p.2.size)) svs.length).2 hl]
 obtain ⟨old,k1,k2,k3⟩:=key;have hus:∀r∈Q++R,r.length=p.2.size:=fun x hx=>(List.mem_append.1 hx).elim (k3 x) (x3 x)
 have hl:(old++xs).length=(Q++R).length*p.2.size:=by rw[<-qS hus,List.flatten_append,<-(k2.append x2).length]
 refine ⟨.sl new 0 (Nat.add Q.length R.length) (.u p.1),.cells p.1 (old++xs),?_,by rw[List.length_append];exact QA,xM (fun _ hc=>hR0 (List.append_eq_nil_iff.1 hc).2) hus (show pO p.1 p.2.size (Q++R).length (old++xs).length (.u p.1) from ⟨rfl,by rw[hl];exact Nat.le_refl _⟩) ?_⟩
 ·rw[Kh iL gK mM hi2 eV v1 w1,wY hi he hie hok x1 hR,show Nat.beq R.length 0=false from by
   cases hx:Nat.beq R.length 0 with
   |false=>rfl
   |true=>exact absurd ((beq_iff _ _).1 hx) hm0]
  exact k1
 ·rw[<-hl,List.take_length,List.flatten_append];exact k2.append x2
theorem NH {c:Call} {a b:Operand} {t1 t2 e0:TypeId} {p:TypeId×TI} {Q:List (List AV)} {i2:TI} {y:AV} (iL:c.callee= .builtin .append) (gK:c.args.toList= [a,b]) (mM:c.argTypes.toList= [t1,t2]) (hp':gm E t1=some p) (hok:dq p.2=true) (hi2:E.ty.get t2=some i2) (eV:kf i2.desc=true)
  (ha:aK s.ts a= .slf e0 p.2.size Q) (hb:aK s.ts b=y) (l9:n7 s p.2.size y []):aO E B (.call c) s s (.slf e0 p.2.size Q) none:=aO.pure fun {F g φ tm h new} r=>by
 obtain ⟨i,hi,he,hie⟩:=hX hp';obtain ⟨v,v1,v2⟩:=r.val ha (by simp)
 obtain ⟨w,w1,w2⟩:=r.val hb l9.1;obtain ⟨xs,x1,x2,x3⟩:=l9.2 r w2;refine ⟨v,?_,v2⟩;rw[Kh iL gK mM hi2 eV v1 w1,wY hi he hie hok x1 (Nat.zero_le _)];show sel (wa v) (some (v,[])) none=_;rw[show wa v=true from by cases v2<;>rfl]
theorem YA (c:Cp) (a b:Nat):kz (kz c a) b=kz c (a+b):=by
 cases c with
 |k m=>exact congrArg Cp.k (Nat.sub_sub m a b)
 |u e=>rfl
theorem Nz {t:TypeId} {a:Operand} {lo hi:Option Operand} {p:TypeId×TI} {K lo0 n:Nat} {z:Bool} {Q:List (List AV)} {b1 b2:Option Int} {l u:Nat} (hp:gm E t=some p) (ha:aK s.ts a= .ms K p.2.size lo0 n) (hb:lk K s.bs=some (.rows z p.1 p.2.size Q)) (h1:mX s.ts lo=some b1) (h2:mX s.ts hi=some b2)
  (hb1:b1.getD 0=(l:Int)) (hb2:b2.getD (n:Nat)=(u:Int)) (hlu:l<=u) (hum:u<=n) (hn:lo0+n<=Q.length):aO E B (.slice t a lo hi none) s s (.ms K p.2.size (lo0+l) (u-l)) none:=aO.pure fun {F g φ tm h new} r=>by
 obtain ⟨i,hi',he,hie⟩:=hX hp;obtain ⟨v,v1,v2⟩:=r.val ha (by simp)
 obtain ⟨c1,d1,d2,d3,d4⟩:=wW (d:=0) r h1 hb1;obtain ⟨c2,f1,f2,f3,f4⟩:=wW (d:=n) r h2 hb2;have z1:l=0->fB c1=true:=fun h=>by
  cases c1 with
  |none=>rfl
  |some x=>exact (beq_iff _ _).2 (by have:x=l:=d2;omega)
 have z2:u=0->fB c2=true:=fun h=>by
  cases c2 with
  |none=>rfl
  |some x=>exact (beq_iff _ _).2 (by have:x=u:=f2;omega)
 have go:=fun v (hv:aI tm a=some v)=>zp (new:=new) (hp:=h.hp.get) (mx:=none) (c3:=none) hi' he hie hv d1 f1 rfl rfl
 cases v2 with
 |msN _ hb0=>
  have hu0:u=0:=Nat.le_zero.1 hum;have hl0:l=0:=by omega
  subst hu0;subst hl0;refine ⟨.aT,?_,.msN _ hb0⟩;rw[go _ v1];show same (sel (fB c1&&(fB c2&&true)) (some SV.aT) none)=_;rw[z1 rfl,z2 rfl];rfl
 |msE _ _ h0=>
  have hu0:u=0:=Nat.le_zero.1 hum;have hl0:l=0:=by omega
  subst hu0;subst hl0;refine ⟨.sle,?_,.msE _ _ h0⟩;rw[go _ v1];show same (sel (fB c1&&(fB c2&&true)) (some SV.sle) none)=_;rw[z1 rfl,z2 rfl];rfl
 |ms _ _ _ hb0=>
  have q:=r.bx K _ hb;generalize φ K=fp at q;cases q with
  |cI hb1=>rw[hb0] at hb1;cases hb1
  | @rows _ _ _ _ svs hb' hh hz hu hc q=>
  have eB:oX p.1 n (kz (g.κ K) lo0):=by
   cases hκ:g.κ K with
   |k m=>rw[hκ] at hc;have:=hc.1;exact (show n<=m-lo0 by omega)
   |u e'=>rw[hκ] at hc;exact hc.1
  refine ⟨mT (g.ρ K) (lo0*p.2.size) l u p.2.size (kz (g.κ K) lo0),?_,?_⟩
  ·rw[go _ v1];show same (jv E p.1 (g.ρ K) (lo0*p.2.size) n (kz (g.κ K) lo0) c1 c2 none)=_;unfold jv;rw[cK hie,d2,f2];generalize kz (g.κ K) lo0=c at eB;have e1:(oh c p.1&&(Nat.ble l u&&(Nat.ble u (reach c n)&&Gj none u (reach c n))))=true:=by
    have t1:oh c p.1=true:=by
     cases c with
     |k m=>rfl
     |u e'=>exact (beq_iff _ _).2 eB
    have t2:Nat.ble u (reach c n)=true:=Nat.ble_eq_true_of_le (by
     cases c with
     |k m=>exact Nat.le_trans hum eB
     |u e'=>exact hum)
    rw[t1,(bj _ _).2 hlu,t2];rfl
   rw[e1];rfl
  ·unfold mT;rw[aA,aA];split
   ·rename_i e0;obtain rfl:=(beq_iff _ _).1 e0;rw[Nat.add_zero,Nat.sub_zero];exact .ms _ lo0 u hb0
   ·rename_i e0;have e0:l≠0:=fun h=>e0 ((beq_iff _ _).2 h)
    split
    ·rw[YA];rw[show Nat.add (lo0*p.2.size) (Nat.mul l p.2.size)=(lo0+l)*p.2.size from (Nat.add_mul _ _ _).symm];exact .ms _ (lo0+l) (u-l) hb0
    ·rename_i hlt;have hul:u=l:=by
      have:¬l<u:=fun hc=>hlt (Nat.ble_eq_true_of_le hc)
      omega
     subst hul;rw[Nat.sub_self];exact .msE _ _ (by omega)
theorem YM {P:Program} {t:TypeId} {k:IntKind} {m n:Int} (hn:n≠0):cG P (binOp .rem t (.int k m) (.int k n))=some (.int k (m.tmod n)):=by
 have:binOp .rem t (.int k m) (.int k n)=Sem.pure (.int k (m.tmod n)):=by
  simp[binOp,Op.intDiv,hn,pure]
 rw[this];rfl
theorem YO {P:Program} {t:TypeId} {k:IntKind} {m n:Int} (hn:n≠0):cG P (binOp .quo t (.int k m) (.int k n))=some (.int k (k.wrap (m.tdiv n))):=by
 have:binOp .quo t (.int k m) (.int k n)=Sem.pure (.int k (k.wrap (m.tdiv n))):=by
  simp[binOp,Op.intDiv,hn,pure]
 rw[this];rfl
def divL (op:BinOp) (k:IntKind) (m n:Int):Option AV:=
 match op with
 | .rem=>some (.int k (m.tmod n))
 | .quo=>some (.int k (k.wrap (m.tdiv n)))
 |_=>none
theorem agr {op:BinOp} {t t2:TypeId} {a b:Operand} {k k':IntKind} {m n:Int} {x:AV} (ha:aK s.ts a= .int k m) (hb:aK s.ts b= .int k' n) (hk:cn k k'=true) (hn:n≠0) (hx:divL op k m n=some x):aO E B (.binOp op t a b t2) s s x none:=aO.bi (f:=fun _ v u=>same (sS E op t a b v u)) (fun _ _ _=>rfl) ha (by simp) hb (by simp) fun {F g φ tm h v w} r hv hw=>by
 have ek:k=k':=by cases k<;>cases k'<;>first|rfl|(cases hk;done)
 subst ek;cases hv;cases hw;cases op<;>first|(cases hx;done)|skip
 ·cases hx;refine ⟨.int k (.lit (k.wrap (m.tdiv n))),?_,.int _ _⟩;show same (gi (cG E.P (binOp .quo t (.int k m) (.int k n))))=_;rw[YO hn];rfl
 ·cases hx;refine ⟨.int k (.lit (m.tmod n)),?_,.int _ _⟩;show same (gi (cG E.P (binOp .rem t (.int k m) (.int k n))))=_;rw[YM hn];rfl
theorem aav {P:Program} {t:TypeId} {a b:ByteArray} (hn:a.size+b.size<=1000000):cG P (binOp .add t (.string a) (.string b))=some (.string (a++b)):=by
 have h1:¬(((a.size+b.size:Nat):Int)>IntKind.i64.max):=by
  have:IntKind.i64.max=9223372036854775807:=by decide
  omega
 have:binOp .add t (.string a) (.string b)=Sem.pure (.string (a++b)):=by
  show Op.stringOp .add a b=_;unfold Op.stringOp;simp only[];rw[if_neg h1];rfl
 rw[this];rfl
theorem ags {t t2:TypeId} {a b:Operand} {x y:ByteArray} (ha:aK s.ts a= .str x) (hb:aK s.ts b= .str y) (hn:x.size+y.size<=1000000):aO E B (.binOp .add t a b t2) s s (.str (x++y)) none:=aO.bi (f:=fun _ v u=>same (sS E .add t a b v u)) (fun _ _ _=>rfl) ha (by simp) hb (by simp) fun {F g φ tm h v w} r hv hw=>by
 cases hv;cases hw;refine ⟨.str (x++y),?_,.str _⟩;show same (gi (cG E.P (binOp .add t (.string x) (.string y))))=_;rw[aav hn];rfl
theorem ND {t:TypeId} {a ix:Operand} {i:TI} {b:ByteArray} {k:IntKind} {n:Int} {c:UInt8} (hi:E.ty.get t=some i) (hd:ow i.desc=true) (ha:aK s.ts a= .str b) (hix:aK s.ts ix= .int k n) (hc:lv b.data.toList n=some c):aO E B (.index t a ix) s s (.int .u8 (c.toNat:Int)) none:=aO.bi (f:=fun _ v u=>ai (fu u) fun k=>j9 E t k v) (fun _ _ _=>rfl) ha (by simp) hix (by simp) fun {F g φ tm h v w} r hv hw=>by
 obtain ⟨j,hj,hc2⟩:=zc hc;subst hj;cases hv;cases hw;refine ⟨_,?_,.int _ _⟩;show j9 E t j (.str b)=_;unfold j9;rw[cK hi];generalize i.desc=d at hd;cases d<;>first|(cases hd;done)|skip
 show ai (b.data.toList[j]?) (fun b=>some (SV.int .u8 (.lit (.ofNat b.toNat)),([]:List Up)))=_
 rw[cK hc2];rfl
end
end Go.Sim
end
