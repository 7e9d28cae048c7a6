/- What the accepted writes of any case do, as TransactionEffects says. Condition: what the law reads is of bulk at most 1048576. (A machine of its own over plain data, sound against the model; then plain laws.) -/
import Derived.Test.YtmealahmjddpcaaGreatDoorCards
import Derived.Test.YtmealahmjddpcaaGreatDoorTie
import Derived.Test.YtmealahmjddpcaaGreatDoorP16
import Derived.Test.YtmealahmjddpcaaGreatDoorP8
import Derived.Test.YtmealahmjddpcaaGreatDoorP10
import Derived.Test.YtmealahmjddpcaaGreatDoorP13
import Derived.Test.YtmealahmjddpcaaGreatDoorP12
set_option linter.all false
set_option maxRecDepth 100000
noncomputable section
namespace Go.Proofs.YtmealahmjddpcaaGreatDoor.law5
open Go.ChangeShapes Go.WideShapes Go.ChangeAt Go.RowKit Go.Sim
theorem own:ownKnob Tryz.prog.godebug=none:=by kernel_rfl
theorem laid:laidOutB Tryz.prog=true:=by kernel_rfl
theorem Ry:BT Tryz.prog 15 (.bool true):=by
 obtain ⟨h',hr⟩:=UK runB;exact aep (E:=env [] [] [] [] [] [] []) (Fu.envS (fun k v h=>by cases h) (fun k t h=>by cases h) (fun m h=>by cases h)) (Fu.acM (fun a b r h=>by cases h) (fun a b r h=>by cases h)) hr (by kernel_rfl) (fun fn hf=>by
  cases hf;kernel_rfl)
theorem aie:jM E0:=Fu.envS (fun k v h=>by
 have h:sel (Nat.beq 15 k) (some (.bool true)) none=some v:=h;obtain ⟨h1,h2⟩:=av h;cases h2;obtain rfl:=(beq_iff _ _).1 h1;exact Ry) (fun k t h=>by cases h) (fun m h=>by cases h)
theorem afJ (W:World):bu E0 (gW E0.P W):=by
 have h:bu E0 (gh0 E0.P fun _=>0):=Fu.acM (fun a b r h=>by cases h) (fun a b r h=>by cases h)
 exact ⟨h.ty,h.fn,h.lt,h.eq,h.mix,h.sz⟩
theorem ZY (H:Type) (enc:TypeId×Value→H) (W:World) (base:Nat) (args:Array Value) (ds gs:List (DataW H)) (before:List MemPlace)
  (Qz:∀(j:Nat) t v,Tryz.f5.params[j]? =some t→args[j]? =some v→Value.okWide Tryz.prog W .any base t v)
  (hW:DataW.Whole enc Tryz.prog Tryz.f5.params.toList Rows.transactionEffectsSpec.vars false W args.toList ds gs before) (hk:Rows.uptoSmall H (ds++gs)=true):
  Calls Tryz.prog 5 args W fun e W'=>∃v,e= .returned v∧Rows.transactionEffectsSpec.post enc Tryz.prog Tryz.f5 false true false false W args v W':=by
 refine law_contract (E:=E0) (tb:=4) aie afJ (by kernel_rfl) laid (by kernel_rfl) rfl Tryz.underlying4 rfl (fun ds hd=> ?_) hW ?_
 ·match ds,hd with
  | [d0],_=>rfl
 ·obtain ⟨p,q,hA,hV,_⟩:=hW;obtain ⟨rfl,_⟩:=trodVars_none hV;rw[Tryz.params5] at hA Qz;obtain ⟨v0,vs0,d0,ds0,p0,q0,e0,rfl,rfl,h0,r0⟩:=trodAll_cons hA;obtain ⟨rfl,rfl,rfl⟩:=trodAll_nil r0;obtain rfl:args= #[v0]:=by cases args;simp_all
  have hk:=of_decide_eq_true hk;simp only[List.append_nil,Rows.uptoBulkAll] at hk;obtain ⟨x0,n0,a0,b0,c0⟩:=aey ahq (by kernel_rfl:RI 22=true) h0 (MJ Tryz.underlying22 (Qz 0 22 v0 rfl rfl))
  have o0:=Ht _ _ _ b0;obtain ⟨y0,g0⟩:=ty22 _ _ b0;obtain rfl:=(List.cons.inj g0).1;obtain ⟨n,hn⟩:=vo y0 o0 (by omega)
  exact ⟨(H4 y0).ts.map Prod.snd,ev5 n hn,a0,trivial⟩
def cellsOf:List (DataW Unit)→Array Value
 | []=> #[]
 | .lit (.int k n)::l=> #[.int k n]++cellsOf l
 |_::l=>cellsOf l
def IZ:DataW Unit→Array Value
 | .agg l=>cellsOf l
 |_=> #[]
def setCells (cs:Array Value):Obj→Obj
 | .cells _ t frozen=>.cells cs t frozen
 |o=>o
def vz (os:Os):World:=
 {World.holding Tryz.prog os ⟨#[],#[],[]⟩ with
  heap:=(((World.holding Tryz.prog os ⟨#[],#[],[]⟩).heap.modify 1 (setCells (IZ Rows.laid_internal_strconv_uint64pow10))).modify 2 (setCells (IZ Rows.laid_math_bits_deBruijn32tab))).modify 3 (setCells (IZ Rows.laid_math_bits_deBruijn64tab))}
def Fq:Array Value:= #[.slice none 0 0]
theorem YM (os:Os):laidMet Tryz.prog Rows.transactionEffectsUptoRow.laid ((vz os).forCall (fun _ _=>0) ⟨#[],Fq,[]⟩).memory:=
 laidMet_of_run' 80 (by kernel_rfl) (by kernel_rfl)
theorem reads (os:Os) {H:Type} (enc:TypeId×Value→H):∃places,DataW.whole enc Tryz.prog ((vz os).forCall (fun _ _=>0) ⟨#[],Fq,[]⟩).memory Tryz.f5.params.toList Rows.transactionEffectsSpec.vars false Fq.toList 80=some ([.nil],[],places):=
 ⟨[],by kernel_rfl⟩
theorem lifted (os:Os) (started:os.Started) (H:Type) (enc:TypeId×Value→H) (F:Stop.Interp):
  ReturnsInHanded {} Tryz.checked os 5 .any ((Rows.OpenSpec.upto Rows.transactionEffectsSpec).preRow enc Tryz.prog Tryz.f5 Rows.transactionEffectsUptoRow.domain false Rows.transactionEffectsUptoRow.laid) (((Rows.OpenSpec.upto Rows.transactionEffectsSpec).at F).post enc Tryz.prog Tryz.f5 false true false false):=by
 obtain ⟨places,hx⟩:=reads os enc;refine returnsInHanded_of_row (C:=Tryz.checked) (s:=Rows.OpenSpec.upto Rows.transactionEffectsSpec) own started (by kernel_rfl) Tryz.func5
  (witness_row_at (enc:=enc) (C:=Tryz.checked) false (vz os) Fq rfl (by kernel_rfl) (by kernel_rfl) (by kernel_rfl)
   (OpenSpec.preRow_of_cond 80 hx (by kernel_rfl) (fun k hk=>by cases hk;kernel_rfl) (by kernel_rfl) (YM os))) ?_
 intro W base args ds gs before Qz hW _ hk _ hL _ _;exact ZY H enc W base args ds gs before Qz hW (hk _ rfl)
theorem said:Rows.TransactionEffectsUptoSaid:=
 OpenClaim.holds_of_cond 5 Tryz.f5 rfl rfl rfl rfl rfl rfl rfl ⟨rfl,rfl,rfl,rfl,rfl⟩ rfl rfl rfl rfl rfl (by kernel_rfl) Tryz.func5 closed
  (of_decide_eq_true (by kernel_rfl)) (by unfold Func.isWrapper;first|(rw[if_pos (by decide+kernel)];kernel_rfl)|(rw[if_neg (by decide+kernel)];exact ⟨rfl,rfl⟩))
  (fun os started H enc _ F=>by rw[OpenClaim.pre_eq_preRow];exact lifted os started H enc F)
theorem plain (f:FuncId) (fn:Func) (hf:Tryz.pinned.checked.prog.funcNamed Rows.transactionEffectsUptoRow.func=some f) (hfn:Tryz.pinned.checked.prog.funcs[f]? =some fn):
  true=Tryz.pinned.checked.prog.looks []∧∀(j:Nat) t,fn.params[j]? =some t→Tryz.pinned.checked.prog.wantsStandIn t=false:=by
 obtain rfl:f=5:=Option.some.inj ((show Tryz.prog.funcNamed Rows.transactionEffectsUptoRow.func=some 5 by kernel_rfl).symm.trans hf)|>.symm
 obtain rfl:fn=Tryz.f5:=(Option.some.inj (Tryz.func5.symm.trans hfn)).symm;refine ⟨by kernel_rfl,fun j t ht=> ?_⟩
 rw[Tryz.params5] at ht;rcases j with _|j
 ·obtain rfl:22=t:=by simpa using ht
  exact (show Tryz.prog.wantsStandIn 22=false by kernel_rfl)
 ·simp at ht
theorem proved:Rows.TransactionEffectsUptoCardSaid:=
 Claim7.holds_tied_plain_at .later [] _ _ _ _ said (fun _ h=>by cases h) (by kernel_rfl) (fun _ h=>by cases h) transactionEffectsUpto_row_tie rfl ⟨rfl,rfl⟩ (by kernel_rfl) rfl plain (by kernel_rfl)
end Go.Proofs.YtmealahmjddpcaaGreatDoor.law5
end
