/- A column that survives has its kind in the newest schema, and rows keep their keys and their order, as MappingKeeps says. Condition: what the law reads is of bulk at most 1048576. (A machine of its own over plain data, sound against the model; then plain laws.) -/
import Derived.Test.YtbnkhmoelnfjoaaGreatRows
import Derived.Test.YtbnkhmoelnfjoaaGreatP12
import Derived.Test.YtbnkhmoelnfjoaaGreatP4
import Derived.Test.YtbnkhmoelnfjoaaGreatP7
import Derived.Test.YtbnkhmoelnfjoaaGreatP9
set_option linter.all false
set_option maxRecDepth 100000
noncomputable section
namespace Go.Proofs.YtbnkhmoelnfjoaaGreat.law6
open Go.ChangeShapes Go.WideShapes Go.ChangeAt Go.RowKit Go.bX
def own:ownKnob Tryz.prog.godebug=none:=by kernel_rfl
def laid:laidOutB Tryz.prog=true:=by kernel_rfl
def aFr (W:World):dW E0 (gW E0.P W):=by
 have h:dW E0 (gh0 E0.P λ_=>0):=OK.ayO (λa b r h=>by cases h) (λa b r h=>by cases h)
 exact ⟨h.ty,h.fn,h.lt,h.eq,h.mix,h.sz⟩
def avG (H:Type) (enc:TypeId×Value->H) (W:World) (base:Nat) (args:Array Value) (ds gs:List (DataW H)) (before:List MemPlace)
  (NS:∀(j:Nat) t v,Tryz.f6.params[j]? =some t->args[j]? =some v->Value.okWide Tryz.prog W .any base t v)
  (hW:DataW.Whole enc Tryz.prog Tryz.f6.params.toList Rows.mappingKeepsSpec.vars false W args.toList ds gs before) (hk:Rows.uptoSmall H (ds++gs)=true):
  Calls Tryz.prog 6 args W λe W'=>∃v,e= .returned v/\Rows.mappingKeepsSpec.post enc Tryz.prog Tryz.f6 false true false false W args v W':=by
 refine law_contract (E:=E0) (tb:=4) aFr (by kernel_rfl) laid (by kernel_rfl) rfl Tryz.underlying4 rfl (λds hd=> ?_) hW ?_
 ·match ds,hd with
  | [d0],_=>rfl
 ·obtain ⟨p,q,hA,hV,_⟩:=hW;obtain ⟨rfl,_⟩:=trodVars_none hV;rw[Tryz.params6] at hA NS;obtain ⟨v0,vs0,d0,ds0,p0,q0,e0,rfl,rfl,h0,r0⟩:=trodAll_cons hA;obtain ⟨rfl,rfl,rfl⟩:=trodAll_nil r0;obtain rfl:args= #[v0]:=by cases args;simp_all
  have hk:=qv hk;simp only[tN,Rows.uptoBulkAll] at hk;obtain ⟨x0,n0,a0,b0,c0⟩:=aCI aJG (by kernel_rfl:amk 22=true) h0 (agd Tryz.underlying22 (NS 0 22 v0 rfl rfl))
  have o0:=Y0 _ _ _ b0;obtain ⟨y0,g0⟩:=ty22 _ _ b0;obtain rfl:=(OD g0).1;obtain ⟨n,hn⟩:=aEZ y0 o0 (by omega)
  exact ⟨(ajR y0).ts.map Prod.snd,ev6 n hn,a0,trivial⟩
def lifted (os:Os) (started:os.Started) (H:Type) (enc:TypeId×Value->H) (F:Stop.Interp):
  ReturnsInHanded {} Tryz.checked os 6 .any ((Rows.OpenSpec.upto Rows.mappingKeepsSpec).pre6 enc Tryz.prog Tryz.f6 Rows.mappingKeepsUptoRow.domain false) (((Rows.OpenSpec.upto Rows.mappingKeepsSpec).at F).post enc Tryz.prog Tryz.f6 false true false false):=by
 refine returnsInHanded_of_cond (C:=Tryz.checked) (s:=Rows.OpenSpec.upto Rows.mappingKeepsSpec) (k:=Rows.uptoSmall) rfl own started (by kernel_rfl) Tryz.func6
  (OpenSpec.witness (enc:=enc) (C:=Tryz.checked) (s:=Rows.OpenSpec.upto Rows.mappingKeepsSpec) (k:=Rows.uptoSmall) rfl false ⟨#[],#[.slice none 0 0],[]⟩ 8 (by kernel_rfl) (by kernel_rfl) (by kernel_rfl)
   (x:=([.nil],[],[])) (by kernel_rfl) rfl (by kernel_rfl)) ?_
 intro W base args ds gs before NS hW _ hk _;exact avG H enc W base args ds gs before NS hW hk
def proved:Rows.MappingKeepsUptoSaid:=
 OpenClaim.holds_of_cond 6 Tryz.f6 rfl rfl rfl rfl rfl rfl rfl ⟨rfl,rfl,rfl,rfl,rfl⟩ rfl rfl rfl rfl rfl (by kernel_rfl) Tryz.func6 closed
  (qv (by kernel_rfl)) (by unfold Func.isWrapper;first|(rw[aH (by decide+kernel)];kernel_rfl)|(rw[aL (by decide+kernel)];exact ⟨rfl,rfl⟩))
  (λos started H enc _ F=>lifted os started H enc F)
end Go.Proofs.YtbnkhmoelnfjoaaGreat.law6
end
