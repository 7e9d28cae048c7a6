/- The corresponding changes lead from the corresponding state to the corresponding state, as MappingFollows says. Condition: what the law reads is of bulk at most 1048576. (A machine of its own over plain data, sound against the model; then plain laws.) -/
import Derived.Test.YtbnkhmoelnfjoaaGreatRows
import Derived.Test.YtbnkhmoelnfjoaaGreatP11
import Derived.Test.YtbnkhmoelnfjoaaGreatP4
import Derived.Test.YtbnkhmoelnfjoaaGreatP6
import Derived.Test.YtbnkhmoelnfjoaaGreatP8
set_option linter.all false
set_option maxRecDepth 100000
open Bool renaming false->B,true->M
noncomputable section
namespace Go.Proofs.YtbnkhmoelnfjoaaGreat.law11
open Go.ChangeShapes Go.WideShapes Go.ChangeAt Go.RowKit Go.bL
def own:ownKnob Tryz.prog.godebug=none:=by kernel_rfl
def laid:laidOutB Tryz.prog=M:=by kernel_rfl
def aLC (W:World):fR E0 (gW E0.P W):=by
 have h:fR E0 (gh0 E0.P λ_=>0):=apM.aSt (λa b r h=>by cases h) (λa b r h=>by cases h)
 exact ⟨h.ty,h.fn,h.lt,h.eq,h.mix,h.sz⟩
def aCY (H:Type) (enc:TypeId×Value->H) (W:World) (base:Nat) (args:Array Value) (ds gs:List (DataW H)) (before:List MemPlace)
  (RG:∀(j:Nat) t v,Tryz.f11.params[j]? =some t->args[j]? =some v->Value.okWide Tryz.prog W .any base t v)
  (hW:DataW.Whole enc Tryz.prog Tryz.f11.params.toList Rows.mappingFollowsSpec.vars B W args.toList ds gs before) (hk:Rows.uptoSmall H (ds++gs)=M):
  Calls Tryz.prog 11 args W λe W'=>∃v,e= .returned v/\Rows.mappingFollowsSpec.post enc Tryz.prog Tryz.f11 B M B B W args v W':=by
 refine law_contract (E:=E0) (tb:=4) aLC (by kernel_rfl) laid (by kernel_rfl) rfl Tryz.underlying4 rfl (λds hd=> ?_) hW ?_
 ·match ds,hd with
  | [d0],_=>rfl
 ·obtain ⟨p,q,hA,hV,_⟩:=hW;obtain ⟨rfl,_⟩:=trodVars_none hV;rw[Tryz.params11] at hA RG;obtain ⟨v0,vs0,d0,ds0,p0,q0,e0,rfl,rfl,h0,r0⟩:=trodAll_cons hA;obtain ⟨rfl,rfl,rfl⟩:=trodAll_nil r0;obtain rfl:args= #[v0]:=by cases args;simp_all
  have hk:=rH hk;simp only[rG,Rows.uptoBulkAll] at hk;obtain ⟨x0,n0,a0,b0,c0⟩:=aJO aQE (by kernel_rfl:asr 22=M) h0 (alE Tryz.underlying22 (RG 0 22 v0 rfl rfl))
  have o0:=adX _ _ _ b0;obtain ⟨y0,g0⟩:=ty22 _ _ b0;obtain rfl:=(abo g0).1;obtain ⟨n,hn⟩:=aIO y0 o0 (by omega)
  exact ⟨(afE y0).ts.map Prod.snd,ev11 n hn,a0,trivial⟩
def lifted (os:Os) (started:os.Started) (H:Type) (enc:TypeId×Value->H) (F:Stop.Interp):
  ReturnsInHanded {} Tryz.checked os 11 .any ((Rows.OpenSpec.upto Rows.mappingFollowsSpec).pre6 enc Tryz.prog Tryz.f11 Rows.mappingFollowsUptoRow.domain B) (((Rows.OpenSpec.upto Rows.mappingFollowsSpec).at F).post enc Tryz.prog Tryz.f11 B M B B):=by
 refine returnsInHanded_of_cond (C:=Tryz.checked) (s:=Rows.OpenSpec.upto Rows.mappingFollowsSpec) (k:=Rows.uptoSmall) rfl own started (by kernel_rfl) Tryz.func11
  (OpenSpec.witness (enc:=enc) (C:=Tryz.checked) (s:=Rows.OpenSpec.upto Rows.mappingFollowsSpec) (k:=Rows.uptoSmall) rfl B ⟨#[],#[.slice none 0 0],[]⟩ 8 (by kernel_rfl) (by kernel_rfl) (by kernel_rfl)
   (x:=([.nil],[],[])) (by kernel_rfl) rfl (by kernel_rfl)) ?_
 intro W base args ds gs before RG hW _ hk _;exact aCY H enc W base args ds gs before RG hW hk
def proved:Rows.MappingFollowsUptoSaid:=
 OpenClaim.holds_of_cond 11 Tryz.f11 rfl rfl rfl rfl rfl rfl rfl ⟨rfl,rfl,rfl,rfl,rfl⟩ rfl rfl rfl rfl rfl (by kernel_rfl) Tryz.func11 closed
  (rH (by kernel_rfl)) (by unfold Func.isWrapper;first|(rw[aF (by decide+kernel)];kernel_rfl)|(rw[aC (by decide+kernel)];exact ⟨rfl,rfl⟩))
  (λos started H enc _ F=>lifted os started H enc F)
end Go.Proofs.YtbnkhmoelnfjoaaGreat.law11
end
