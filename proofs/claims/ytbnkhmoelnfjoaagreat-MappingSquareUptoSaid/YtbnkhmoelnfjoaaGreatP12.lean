/- What the ways of a write agree on, as MappingSquare says. Condition: what the law reads is of bulk at most 1048576. (A machine of its own over plain data, sound against the model; then plain laws.) -/
import Derived.Test.YtbnkhmoelnfjoaaGreatRows
import Derived.Test.YtbnkhmoelnfjoaaGreatP11
import Derived.Test.YtbnkhmoelnfjoaaGreatP4
import Derived.Test.YtbnkhmoelnfjoaaGreatP6
import Derived.Test.YtbnkhmoelnfjoaaGreatP8
set_option linter.all false
set_option maxRecDepth 100000
open Bool renaming false->U,true->I
noncomputable section
namespace Go.Proofs.YtbnkhmoelnfjoaaGreat.law8
open Go.ChangeShapes Go.WideShapes Go.ChangeAt Go.RowKit Go.bM
def own:ownKnob Tryz.prog.godebug=none:=by kernel_rfl
def laid:laidOutB Tryz.prog=I:=by kernel_rfl
def aMO (ac:World):fU E0 (gW E0.P ac):=by
 have h:fU E0 (gh0 E0.P λ_=>0):=arA.aTR (λa b r h=>by cases h) (λa b r h=>by cases h)
 exact ⟨h.ty,h.fn,h.lt,h.eq,h.mix,h.sz⟩
def aEz (H:Type) (enc:TypeId×Value->H) (ac:World) (base:Nat) (args:Array Value) (ds gs:List (DataW H)) (before:List MemPlace)
  (SR:∀(j:Nat) t v,Tryz.f8.params[j]? =some t->args[j]? =some v->Value.okWide Tryz.prog ac .any base t v)
  (hW:DataW.Whole enc Tryz.prog Tryz.f8.params.toList Rows.mappingSquareSpec.vars U ac args.toList ds gs before) (hk:Rows.uptoSmall H (ds++gs)=I):
  Calls Tryz.prog 8 args ac λe W'=>∃v,e= .returned v/\Rows.mappingSquareSpec.post enc Tryz.prog Tryz.f8 U I U U ac args v W':=by
 refine law_contract (E:=E0) (tb:=4) aMO (by kernel_rfl) laid (by kernel_rfl) rfl Tryz.underlying4 rfl (λds hd=> ?_) hW ?_
 ·match ds,hd with
  | [d0],_=>rfl
 ·obtain ⟨p,q,hA,hV,_⟩:=hW;obtain ⟨rfl,_⟩:=trodVars_none hV;rw[Tryz.params8] at hA SR;obtain ⟨v0,vs0,d0,ds0,p0,q0,e0,rfl,rfl,h0,r0⟩:=trodAll_cons hA;obtain ⟨rfl,rfl,rfl⟩:=trodAll_nil r0;obtain rfl:args= #[v0]:=by cases args;simp_all
  have hk:=ux hk;simp only[rE,Rows.uptoBulkAll] at hk;obtain ⟨x0,n0,a0,b0,c0⟩:=aKV aRY (by kernel_rfl:YB 22=I) h0 (anq Tryz.underlying22 (SR 0 22 v0 rfl rfl))
  have o0:=afK _ _ _ b0;obtain ⟨y0,g0⟩:=ty22 _ _ b0;obtain rfl:=(List.cons.inj g0).1;obtain ⟨n,hn⟩:=aMw y0 o0 (by omega)
  exact ⟨(arH y0).ts.map Prod.snd,ev8 n hn,a0,trivial⟩
def lifted (os:Os) (started:os.Started) (H:Type) (enc:TypeId×Value->H) (F:Stop.Interp):
  ReturnsInHanded {} Tryz.checked os 8 .any ((Rows.OpenSpec.upto Rows.mappingSquareSpec).pre6 enc Tryz.prog Tryz.f8 Rows.mappingSquareUptoRow.domain U) (((Rows.OpenSpec.upto Rows.mappingSquareSpec).at F).post enc Tryz.prog Tryz.f8 U I U U):=by
 refine returnsInHanded_of_cond (C:=Tryz.checked) (s:=Rows.OpenSpec.upto Rows.mappingSquareSpec) (k:=Rows.uptoSmall) rfl own started (by kernel_rfl) Tryz.func8
  (OpenSpec.witness (enc:=enc) (C:=Tryz.checked) (s:=Rows.OpenSpec.upto Rows.mappingSquareSpec) (k:=Rows.uptoSmall) rfl U ⟨#[],#[.slice none 0 0],[]⟩ 8 (by kernel_rfl) (by kernel_rfl) (by kernel_rfl)
   (x:=([.nil],[],[])) (by kernel_rfl) rfl (by kernel_rfl)) ?_
 intro ac base args ds gs before SR hW _ hk _;exact aEz H enc ac base args ds gs before SR hW hk
def proved:Rows.MappingSquareUptoSaid:=
 OpenClaim.holds_of_cond 8 Tryz.f8 rfl rfl rfl rfl rfl rfl rfl ⟨rfl,rfl,rfl,rfl,rfl⟩ rfl rfl rfl rfl rfl (by kernel_rfl) Tryz.func8 closed
  (ux (by kernel_rfl)) (by unfold Func.isWrapper;first|(rw[ax (by decide+kernel)];kernel_rfl)|(rw[au (by decide+kernel)];exact ⟨rfl,rfl⟩))
  (λos started H enc _ F=>lifted os started H enc F)
end Go.Proofs.YtbnkhmoelnfjoaaGreat.law8
end
