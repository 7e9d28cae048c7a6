/- Going down version by version is going down at once, for states and for changes, and the newest version is the state itself, as MappingSteps says. Condition: what the law reads is of bulk at most 1048576. (A machine of its own over plain data, sound against the model; then plain laws.) -/
import Derived.Test.YtbnkhmoelnfjoaaGreatRows
import Derived.Test.YtbnkhmoelnfjoaaGreatP11
import Derived.Test.YtbnkhmoelnfjoaaGreatP3
import Derived.Test.YtbnkhmoelnfjoaaGreatP6
import Derived.Test.YtbnkhmoelnfjoaaGreatP8
set_option linter.all false
set_option maxRecDepth 100000
open Bool renaming false->I,true->M
noncomputable section
namespace Go.Proofs.YtbnkhmoelnfjoaaGreat.law10
open Go.ChangeShapes Go.WideShapes Go.ChangeAt Go.RowKit Go.bM
def own:ownKnob Tryz.prog.godebug=none:=by kernel_rfl
def laid:laidOutB Tryz.prog=M:=by kernel_rfl
def aKe (W:World):fJ E0 (gW E0.P W):=by
 have h:fJ E0 (gh0 E0.P λ_=>0):=aoI.aQI (λa b r h=>by cases h) (λa b r h=>by cases h)
 exact ⟨h.ty,h.fn,h.lt,h.eq,h.mix,h.sz⟩
def aBN (H:Type) (enc:TypeId×Value->H) (W:World) (base:Nat) (args:Array Value) (ds gs:List (DataW H)) (before:List MemPlace)
  (QX:∀(j:Nat) t v,Tryz.f10.params[j]? =some t->args[j]? =some v->Value.okWide Tryz.prog W .any base t v)
  (hW:DataW.Whole enc Tryz.prog Tryz.f10.params.toList Rows.mappingStepsSpec.vars I W args.toList ds gs before) (hk:Rows.uptoSmall H (ds++gs)=M):
  Calls Tryz.prog 10 args W λe W'=>∃v,e= .returned v/\Rows.mappingStepsSpec.post enc Tryz.prog Tryz.f10 I M I I W args v W':=by
 refine law_contract (E:=E0) (tb:=4) aKe (by kernel_rfl) laid (by kernel_rfl) rfl Tryz.underlying4 rfl (λds hd=> ?_) hW ?_
 ·match ds,hd with
  | [d0],_=>rfl
 ·obtain ⟨p,q,hA,hV,_⟩:=hW;obtain ⟨rfl,_⟩:=trodVars_none hV;rw[Tryz.params10] at hA QX;obtain ⟨v0,vs0,d0,ds0,p0,q0,e0,rfl,rfl,h0,r0⟩:=trodAll_cons hA;obtain ⟨rfl,rfl,rfl⟩:=trodAll_nil r0;obtain rfl:args= #[v0]:=by cases args;simp_all
  have hk:=tq hk;simp only[r4,Rows.uptoBulkAll] at hk;obtain ⟨x0,n0,a0,b0,c0⟩:=aIt aOZ (by kernel_rfl:art 22=M) h0 (akD Tryz.underlying22 (QX 0 22 v0 rfl rfl))
  have o0:=acT _ _ _ b0;obtain ⟨y0,g0⟩:=ty22 _ _ b0;obtain rfl:=(aar g0).1;obtain ⟨n,hn⟩:=aHu y0 o0 (by omega)
  exact ⟨(aeC y0).ts.map Prod.snd,ev10 n hn,a0,trivial⟩
def lifted (os:Os) (started:os.Started) (H:Type) (enc:TypeId×Value->H) (F:Stop.Interp):
  ReturnsInHanded {} Tryz.checked os 10 .any ((Rows.OpenSpec.upto Rows.mappingStepsSpec).pre6 enc Tryz.prog Tryz.f10 Rows.mappingStepsUptoRow.domain I) (((Rows.OpenSpec.upto Rows.mappingStepsSpec).at F).post enc Tryz.prog Tryz.f10 I M I I):=by
 refine returnsInHanded_of_cond (C:=Tryz.checked) (s:=Rows.OpenSpec.upto Rows.mappingStepsSpec) (k:=Rows.uptoSmall) rfl own started (by kernel_rfl) Tryz.func10
  (OpenSpec.witness (enc:=enc) (C:=Tryz.checked) (s:=Rows.OpenSpec.upto Rows.mappingStepsSpec) (k:=Rows.uptoSmall) rfl I ⟨#[],#[.slice none 0 0],[]⟩ 8 (by kernel_rfl) (by kernel_rfl) (by kernel_rfl)
   (x:=([.nil],[],[])) (by kernel_rfl) rfl (by kernel_rfl)) ?_
 intro W base args ds gs before QX hW _ hk _;exact aBN H enc W base args ds gs before QX hW hk
def proved:Rows.MappingStepsUptoSaid:=
 OpenClaim.holds_of_cond 10 Tryz.f10 rfl rfl rfl rfl rfl rfl rfl ⟨rfl,rfl,rfl,rfl,rfl⟩ rfl rfl rfl rfl rfl (by kernel_rfl) Tryz.func10 closed
  (tq (by kernel_rfl)) (by unfold Func.isWrapper;first|(rw[aG (by decide+kernel)];kernel_rfl)|(rw[aC (by decide+kernel)];exact ⟨rfl,rfl⟩))
  (λos started H enc _ F=>lifted os started H enc F)
end Go.Proofs.YtbnkhmoelnfjoaaGreat.law10
end
