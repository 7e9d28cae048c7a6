/- Every version's schema is valid, has the next Version, and has the tables and columns that the migrations say, as MappingValid says. Condition: what the law reads is of bulk at most 1048576. (A machine of its own over plain data, sound against the model; then plain laws.) -/
import Derived.Test.YtbnkhmoelnfjoaaGreatRows
import Derived.Test.YtbnkhmoelnfjoaaGreatP17
import Derived.Test.YtbnkhmoelnfjoaaGreatP7
import Derived.Test.YtbnkhmoelnfjoaaGreatP12
import Derived.Test.YtbnkhmoelnfjoaaGreatP14
import Derived.Test.YtbnkhmoelnfjoaaGreatP11
import Derived.Test.YtbnkhmoelnfjoaaGreatP10
import Derived.Test.YtbnkhmoelnfjoaaGreatP13
set_option linter.all false
set_option maxRecDepth 100000
noncomputable section
namespace Go.Proofs.YtbnkhmoelnfjoaaGreat.law3
open Go.ChangeShapes Go.WideShapes Go.ChangeAt Go.RowKit Go.bQ
def own:ownKnob Tryz.prog.godebug=none:=by kernel_rfl
def laid:laidOutB Tryz.prog=true:=by kernel_rfl
def Dg {E:Env} (hP:E.P=Tryz.prog) (hT:E.ty=tyT) (h:E.rK= [(182,146),(184,147),(185,88),(165,1048576),(219,1048577)]):∀k c,rM k E.rK=some c->XT E k c:=λk c hc=>by
 rw[h] at hc;have hc:ay (Nat.beq 182 k) (some 146) (rM k _)=some c:=hc;rw[bk] at hc;split at hc
 ·rename_i e;obtain rfl:=(beq_iff _ _).1 e;cases hc;exact ⟨λh=>absurd h (by decide),λ_ ie hie=>⟨λ_=>by rw[hT] at hie;rw[hP,show ie.size=2 from by rw[show ie=_ from (ux (hie.symm.trans (show tyT.get 73=some _ from rfl)))];kernel_rfl];exact avb,λh=>absurd rfl h⟩⟩
 have hc:ay (Nat.beq 184 k) (some 147) (rM k _)=some c:=hc;rw[bk] at hc;split at hc
 ·rename_i e;obtain rfl:=(beq_iff _ _).1 e;cases hc;exact ⟨λh=>absurd h (by decide),λ_ ie hie=>⟨λh=>absurd h (by decide),λ_=>by rw[hT] at hie;rw[hP,show ie.size=2 from by rw[show ie=_ from (ux (hie.symm.trans (show tyT.get 73=some _ from rfl)))];kernel_rfl];exact atP⟩⟩
 have hc:ay (Nat.beq 185 k) (some 88) (rM k _)=some c:=hc;rw[bk] at hc;split at hc
 ·rename_i e;obtain rfl:=(beq_iff _ _).1 e;cases hc;exact ⟨λh=>absurd h (by decide),λ_ ie hie=>⟨λ_=>by rw[hT] at hie;rw[hP,show ie.size=5 from by rw[show ie=_ from (ux (hie.symm.trans (show tyT.get 44=some _ from rfl)))];kernel_rfl];exact ava,λh=>absurd rfl h⟩⟩
 have hc:ay (Nat.beq 165 k) (some 1048576) (rM k _)=some c:=hc;rw[bk] at hc;split at hc
 ·rename_i e;obtain rfl:=(beq_iff _ _).1 e;cases hc;exact ⟨λ_=>by rw[hP];exact aou,λh=>absurd h (by decide)⟩
 have hc:ay (Nat.beq 219 k) (some 1048577) none=some c:=hc;rw[bk] at hc;split at hc
 ·rename_i e;obtain rfl:=(beq_iff _ _).1 e;cases hc;exact ⟨λ_=>by rw[hP];exact acB,λh=>absurd h (by decide)⟩
 cases hc
def Wg {lt eq:List (SI×SI×Bool)} {done:List (Nat×SV)} {join:List Nat} {rK:List (Nat×Nat)} {Eo stop:List Nat} {g:Gh} (h:dP ⟨Tryz.prog,tyT,alU,lt,eq,done,join,rK,Eo,stop⟩ g):dP ⟨Tryz.prog,tyT,fnT,lt,eq,done,join,rK,Eo,stop⟩ g:=
 ⟨h.ty,λf x hx=>h.fn f x (U0 f x hx),h.lt,h.eq,h.mix,h.sz⟩
def amy:QG Tryz.prog 17 (.bool true):=
 auZ (E:=env [] [(182,146),(184,147),(185,88),(165,1048576),(219,1048577)] [] [] [] [] []) (Xh.envS (λk v h=>by cases h) U0 (Dg (E:=env [] [(182,146),(184,147),(185,88),(165,1048576),(219,1048577)] [] [] [] [] []) rfl rfl rfl)) (Wg (Xh.axT (λa b r h=>by cases h) (λa b r h=>by cases h))) runB (by kernel_rfl) (λfn hf=>by
  cases hf;kernel_rfl)
def aJf:wy E0:=Xh.envS (λk v h=>by
 have h:ay (Nat.beq 17 k) (some (.bool true)) none=some v:=h;let ⟨h1,h2⟩:=aJ h;cases h2;obtain rfl:=(beq_iff _ _).1 h1;exact amy) U0 (Dg (E:=E0) rfl rfl rfl)
def aDW (W:World):dP E0 (gW E0.P W):=by
 have h:dP E0 (gh0 E0.P λ_=>0):=Wg (Xh.axT (λa b r h=>by cases h) (λa b r h=>by cases h))
 exact ⟨h.ty,h.fn,h.lt,h.eq,h.mix,h.sz⟩
def avi (H:Type) (enc:TypeId×Value->H) (W:World) (base:Nat) (args:Array Value) (ds gs:List (DataW H)) (before:List MemPlace)
  (N4:∀(j:Nat) t v,Tryz.f3.params[j]? =some t->args[j]? =some v->Value.okWide Tryz.prog W .any base t v)
  (hW:DataW.Whole enc Tryz.prog Tryz.f3.params.toList Rows.mappingValidSpec.vars false W args.toList ds gs before) (hk:Rows.uptoSmall H (ds++gs)=true):
  Calls Tryz.prog 3 args W λe W'=>∃v,e= .returned v/\Rows.mappingValidSpec.post enc Tryz.prog Tryz.f3 false true false false W args v W':=by
 refine law_contract (E:=E0) (tb:=4) aJf aDW (by kernel_rfl) laid (by kernel_rfl) rfl Tryz.underlying4 rfl (λds hd=> ?_) hW ?_
 ·match ds,hd with
  | [d0],_=>rfl
 ·let ⟨p,q,hA,hV,_⟩:=hW;obtain ⟨rfl,_⟩:=trodVars_none hV;rw[Tryz.params3] at hA N4;obtain ⟨v0,vs0,d0,ds0,p0,q0,e0,rfl,rfl,h0,r0⟩:=trodAll_cons hA;obtain ⟨rfl,rfl,rfl⟩:=trodAll_nil r0;obtain rfl:args= #[v0]:=by cases args;simp_all
  have hk:=s8 hk;simp only[pg,Rows.uptoBulkAll] at hk;let ⟨x0,n0,a0,b0,c0⟩:=aBB aHO (by kernel_rfl:amD 22=true) h0 (agc Tryz.underlying22 (N4 0 22 v0 rfl rfl))
  have o0:=YL _ _ _ b0;let ⟨y0,g0⟩:=ty22 _ _ b0;obtain rfl:=(OE g0).1;let ⟨n,hn⟩:=Jk y0 o0 (by omega)
  exact ⟨(ajG y0).ts.map Prod.snd,ev3 n hn,a0,trivial⟩
def lifted (os:Os) (started:os.Started) (H:Type) (enc:TypeId×Value->H) (F:Stop.Interp):
  ReturnsInHanded {} Tryz.checked os 3 .any ((Rows.OpenSpec.upto Rows.mappingValidSpec).pre6 enc Tryz.prog Tryz.f3 Rows.mappingValidUptoRow.domain false) (((Rows.OpenSpec.upto Rows.mappingValidSpec).at F).post enc Tryz.prog Tryz.f3 false true false false):=by
 refine returnsInHanded_of_cond (C:=Tryz.checked) (s:=Rows.OpenSpec.upto Rows.mappingValidSpec) (k:=Rows.uptoSmall) rfl own started (by kernel_rfl) Tryz.func3
  (OpenSpec.witness (enc:=enc) (C:=Tryz.checked) (s:=Rows.OpenSpec.upto Rows.mappingValidSpec) (k:=Rows.uptoSmall) rfl false ⟨#[],#[.slice none 0 0],[]⟩ 8 (by kernel_rfl) (by kernel_rfl) (by kernel_rfl)
   (x:=([.nil],[],[])) (by kernel_rfl) rfl (by kernel_rfl)) ?_
 intro W base args ds gs before N4 hW _ hk _;exact avi H enc W base args ds gs before N4 hW hk
theorem proved:Rows.MappingValidUptoSaid:=
 OpenClaim.holds_of_cond 3 Tryz.f3 rfl rfl rfl rfl rfl rfl rfl ⟨rfl,rfl,rfl,rfl,rfl⟩ rfl rfl rfl rfl rfl (by kernel_rfl) Tryz.func3 closed
  (s8 (by kernel_rfl)) (by unfold Func.isWrapper;first|(rw[ax (by decide+kernel)];kernel_rfl)|(rw[aA (by decide+kernel)];exact ⟨rfl,rfl⟩))
  (λos started H enc _ F=>lifted os started H enc F)
end Go.Proofs.YtbnkhmoelnfjoaaGreat.law3
end
