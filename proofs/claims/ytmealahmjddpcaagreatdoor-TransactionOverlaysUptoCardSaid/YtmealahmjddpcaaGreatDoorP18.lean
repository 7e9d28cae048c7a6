/- The overlay of writes is that of the reference for any case, any writes and any state, as TransactionOverlays says. Condition: what the law reads is of bulk at most 1048576. (A machine of its own over plain data, sound against the model; then plain laws.) -/
import Derived.Test.YtmealahmjddpcaaGreatDoorCards
import Derived.Test.YtmealahmjddpcaaGreatDoorTie
import Derived.Test.YtmealahmjddpcaaGreatDoorP17
import Derived.Test.YtmealahmjddpcaaGreatDoorP8
import Derived.Test.YtmealahmjddpcaaGreatDoorP10
import Derived.Test.YtmealahmjddpcaaGreatDoorP14
import Derived.Test.YtmealahmjddpcaaGreatDoorP13
set_option linter.all false
set_option maxRecDepth 100000
noncomputable section
namespace Go.Proofs.YtmealahmjddpcaaGreatDoor.law6
open Go.ChangeShapes Go.WideShapes Go.ChangeAt Go.RowKit Go.Sim
theorem own:ownKnob Tryz.prog.godebug=none:=by kernel_rfl
theorem laid:laidOutB Tryz.prog=true:=by kernel_rfl
theorem Sk:Ch Tryz.prog 15 (.bool true):=by
 obtain ⟨h',hr⟩:=UJ runB;exact aeS (E:=env [] [] [] [] [] [] []) (FW.envS (fun k v h=>by cases h)) (FW.adw (fun a b r h=>by cases h) (fun a b r h=>by cases h)) hr (by kernel_rfl) (fun fn hf=>by
  cases hf;kernel_rfl)
theorem aiL:kR E0:=FW.envS (fun k v h=>by
 have h:sel (Nat.beq 15 k) (some (.bool true)) none=some v:=h;obtain ⟨h1,h2⟩:=ar h;cases h2;obtain rfl:=(beq_iff _ _).1 h1;exact Sk)
theorem agp (W:World):bC E0 (gW E0.P W):=by
 have h:bC E0 (gh0 E0.P fun _=>0):=FW.adw (fun a b r h=>by cases h) (fun a b r h=>by cases h)
 exact ⟨h.ty,h.fn,h.lt,h.eq,h.mix,h.sz⟩
theorem Z4 (H:Type) (enc:TypeId×Value->H) (W:World) (base:Nat) (args:Array Value) (ds gs:List (DataW H)) (before:List MemPlace)
  (D4:∀(j:Nat) t v,Tryz.f6.params[j]? =some t->args[j]? =some v->Value.okWide Tryz.prog W .any base t v)
  (hW:DataW.Whole enc Tryz.prog Tryz.f6.params.toList Rows.transactionOverlaysSpec.vars false W args.toList ds gs before) (hk:Rows.uptoSmall H (ds++gs)=true):
  Calls Tryz.prog 6 args W fun e W'=>∃v,e= .returned v/\Rows.transactionOverlaysSpec.post enc Tryz.prog Tryz.f6 false true false false W args v W':=by
 refine law_contract (E:=E0) (tb:=4) aiL agp (by kernel_rfl) laid (by kernel_rfl) rfl Tryz.underlying4 rfl (fun ds hd=> ?_) hW ?_
 ·match ds,hd with
  | [d0,d1,d2],_=>rfl
 ·obtain ⟨p,q,hA,hV,_⟩:=hW;obtain ⟨rfl,_⟩:=trodVars_none hV;rw[Tryz.params6] at hA D4;obtain ⟨v0,vs0,d0,ds0,p0,q0,e0,rfl,rfl,h0,r0⟩:=trodAll_cons hA;obtain ⟨v1,vs1,d1,ds1,p1,q1,e1,rfl,rfl,h1,r1⟩:=trodAll_cons r0;obtain ⟨v2,vs2,d2,ds2,p2,q2,e2,rfl,rfl,h2,r2⟩:=trodAll_cons r1;obtain ⟨rfl,rfl,rfl⟩:=trodAll_nil r2;obtain rfl:args= #[v0,v1,v2]:=by cases args;simp_all
  have hk:=of_decide_eq_true hk;simp only[List.append_nil,Rows.uptoBulkAll] at hk;obtain ⟨x0,n0,a0,b0,c0⟩:=Pr Qd (by kernel_rfl:Ew 22=true) h0 (zi Tryz.underlying22 (D4 0 22 v0 rfl rfl))
  have o0:=tJ _ _ _ b0;obtain ⟨y0,g0⟩:=ty22 _ _ b0;obtain rfl:=(List.cons.inj g0).1;obtain ⟨x1,n1,a1,b1,c1⟩:=Pr Qd (by kernel_rfl:Ew 23=true) h1 (zi Tryz.underlying23 (D4 1 23 v1 rfl rfl))
  have o1:=tJ _ _ _ b1;obtain ⟨y1,g1⟩:=ty23 _ _ b1;obtain rfl:=(List.cons.inj g1).1;obtain ⟨z2,w2⟩:=Oj Tryz.underlying33 (D4 2 33 v2 rfl rfl);obtain ⟨x2,n2,a2,b2,c2⟩:=aeZ Qd (by kernel_rfl:Ew 33=true) h2 w2
  have o2:=tJ _ _ _ b2;obtain ⟨y2,rfl⟩:=ty33 _ _ b2;obtain ⟨n,hn⟩:=afO y0 y1 y2 o0 o1 o2 (by omega)
  exact ⟨(Qk y0 y1 y2).ts.map Prod.snd,ev6 n hn,a0,a1,a2,trivial⟩
def cellsOf:List (DataW Unit)->Array Value
 | []=> #[]
 | .lit (.int k n)::l=> #[.int k n]++cellsOf l
 |_::l=>cellsOf l
def JW:DataW Unit->Array Value
 | .agg l=>cellsOf l
 |_=> #[]
def setCells (cs:Array Value):Obj->Obj
 | .cells _ t frozen=>.cells cs t frozen
 |o=>o
def vZ (os:Os):World:=
 {World.holding Tryz.prog os ⟨#[],#[],[]⟩ with
  heap:=(((World.holding Tryz.prog os ⟨#[],#[],[]⟩).heap.modify 1 (setCells (JW Rows.laid_internal_strconv_uint64pow10))).modify 2 (setCells (JW Rows.laid_math_bits_deBruijn32tab))).modify 3 (setCells (JW Rows.laid_math_bits_deBruijn64tab))}
def FU:Array Value:= #[.slice none 0 0,.slice none 0 0,.agg #[.slice none 0 0]]
theorem YS (os:Os):laidMet Tryz.prog Rows.transactionOverlaysUptoRow.laid ((vZ os).forCall (fun _ _=>0) ⟨#[],FU,[]⟩).memory:=
 laidMet_of_run' 80 (by kernel_rfl) (by kernel_rfl)
theorem reads (os:Os) {H:Type} (enc:TypeId×Value->H):∃places,DataW.whole enc Tryz.prog ((vZ os).forCall (fun _ _=>0) ⟨#[],FU,[]⟩).memory Tryz.f6.params.toList Rows.transactionOverlaysSpec.vars false FU.toList 80=some ([.nil,.nil,.agg [.nil]],[],places):=
 ⟨[],by kernel_rfl⟩
theorem lifted (os:Os) (started:os.Started) (H:Type) (enc:TypeId×Value->H) (F:Stop.Interp):
  ReturnsInHanded {} Tryz.checked os 6 .any ((Rows.OpenSpec.upto Rows.transactionOverlaysSpec).preRow enc Tryz.prog Tryz.f6 Rows.transactionOverlaysUptoRow.domain false Rows.transactionOverlaysUptoRow.laid) (((Rows.OpenSpec.upto Rows.transactionOverlaysSpec).at F).post enc Tryz.prog Tryz.f6 false true false false):=by
 obtain ⟨places,hx⟩:=reads os enc;refine returnsInHanded_of_row (C:=Tryz.checked) (s:=Rows.OpenSpec.upto Rows.transactionOverlaysSpec) own started (by kernel_rfl) Tryz.func6
  (witness_row_at (enc:=enc) (C:=Tryz.checked) false (vZ os) FU rfl (by kernel_rfl) (by kernel_rfl) (by kernel_rfl)
   (OpenSpec.preRow_of_cond 80 hx (by kernel_rfl) (fun k hk=>by cases hk;kernel_rfl) (by kernel_rfl) (YS os))) ?_
 intro W base args ds gs before D4 hW _ hk _ hL _ _;exact Z4 H enc W base args ds gs before D4 hW (hk _ rfl)
theorem said:Rows.TransactionOverlaysUptoSaid:=
 OpenClaim.holds_of_cond 6 Tryz.f6 rfl rfl rfl rfl rfl rfl rfl ⟨rfl,rfl,rfl,rfl,rfl⟩ rfl rfl rfl rfl rfl (by kernel_rfl) Tryz.func6 closed
  (of_decide_eq_true (by kernel_rfl)) (by unfold Func.isWrapper;first|(rw[if_pos (by decide+kernel)];kernel_rfl)|(rw[if_neg (by decide+kernel)];exact ⟨rfl,rfl⟩))
  (fun os started H enc _ F=>by rw[OpenClaim.pre_eq_preRow];exact lifted os started H enc F)
theorem plain (f:FuncId) (fn:Func) (hf:Tryz.pinned.checked.prog.funcNamed Rows.transactionOverlaysUptoRow.func=some f) (hfn:Tryz.pinned.checked.prog.funcs[f]? =some fn):
  true=Tryz.pinned.checked.prog.looks []/\∀(j:Nat) t,fn.params[j]? =some t->Tryz.pinned.checked.prog.wantsStandIn t=false:=by
 obtain rfl:f=6:=Option.some.inj ((show Tryz.prog.funcNamed Rows.transactionOverlaysUptoRow.func=some 6 by kernel_rfl).symm.trans hf)|>.symm
 obtain rfl:fn=Tryz.f6:=(Option.some.inj (Tryz.func6.symm.trans hfn)).symm;refine ⟨by kernel_rfl,fun j t ht=> ?_⟩
 rw[Tryz.params6] at ht;rcases j with _|_|_|j
 ·obtain rfl:22=t:=by simpa using ht
  exact (show Tryz.prog.wantsStandIn 22=false by kernel_rfl)
 ·obtain rfl:23=t:=by simpa using ht
  exact (show Tryz.prog.wantsStandIn 23=false by kernel_rfl)
 ·obtain rfl:33=t:=by simpa using ht
  exact (show Tryz.prog.wantsStandIn 33=false by kernel_rfl)
 ·simp at ht
theorem proved:Rows.TransactionOverlaysUptoCardSaid:=
 Claim7.holds_tied_plain_at .later [] _ _ _ _ said (fun _ h=>by cases h) (by kernel_rfl) (fun _ h=>by cases h) transactionOverlaysUpto_row_tie rfl ⟨rfl,rfl⟩ (by kernel_rfl) rfl plain (by kernel_rfl)
end Go.Proofs.YtmealahmjddpcaaGreatDoor.law6
end
