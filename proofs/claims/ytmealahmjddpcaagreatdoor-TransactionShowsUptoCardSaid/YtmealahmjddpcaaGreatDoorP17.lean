/- The overlay of any case's accepted writes is the state after their changes, and any overlay is a valid state, as TransactionShows says. Condition: what the law reads is of bulk at most 1048576. (A machine of its own over plain data, sound against the model; then plain laws.) -/
import Derived.Test.YtmealahmjddpcaaGreatDoorCards
import Derived.Test.YtmealahmjddpcaaGreatDoorTie
import Derived.Test.YtmealahmjddpcaaGreatDoorP16
import Derived.Test.YtmealahmjddpcaaGreatDoorP8
import Derived.Test.YtmealahmjddpcaaGreatDoorP10
import Derived.Test.YtmealahmjddpcaaGreatDoorP13
import Derived.Test.YtmealahmjddpcaaGreatDoorP12
set_option linter.all false
set_option maxRecDepth 100000
noncomputable section
namespace Go.Proofs.YtmealahmjddpcaaGreatDoor.law7
open Go.ChangeShapes Go.WideShapes Go.ChangeAt Go.RowKit Go.Sim
theorem own:ownKnob Tryz.prog.godebug=none:=by kernel_rfl
theorem laid:laidOutB Tryz.prog=true:=by kernel_rfl
theorem R8:Cl Tryz.prog 15 (.bool true):=by
 obtain ⟨h',hr⟩:=Vb runB;exact afg (E:=env [] [] [] [] [] [] []) (Ga.envS (fun k v h=>by cases h)) (Ga.adB (fun a b r h=>by cases h) (fun a b r h=>by cases h)) hr (by kernel_rfl) (fun fn hf=>by
  cases hf;kernel_rfl)
theorem aiZ:kM E0:=Ga.envS (fun k v h=>by
 have h:sel (Nat.beq 15 k) (some (.bool true)) none=some v:=h;obtain ⟨h1,h2⟩:=ar h;cases h2;obtain rfl:=(beq_iff _ _).1 h1;exact R8)
theorem agH (W:World):bC E0 (gW E0.P W):=by
 have h:bC E0 (gh0 E0.P fun _=>0):=Ga.adB (fun a b r h=>by cases h) (fun a b r h=>by cases h)
 exact ⟨h.ty,h.fn,h.lt,h.eq,h.mix,h.sz⟩
theorem aat (H:Type) (enc:TypeId×Value->H) (W:World) (base:Nat) (args:Array Value) (ds gs:List (DataW H)) (before:List MemPlace)
  (Rb:∀(j:Nat) t v,Tryz.f7.params[j]? =some t->args[j]? =some v->Value.okWide Tryz.prog W .any base t v)
  (hW:DataW.Whole enc Tryz.prog Tryz.f7.params.toList Rows.transactionShowsSpec.vars false W args.toList ds gs before) (hk:Rows.uptoSmall H (ds++gs)=true):
  Calls Tryz.prog 7 args W fun e W'=>∃v,e= .returned v/\Rows.transactionShowsSpec.post enc Tryz.prog Tryz.f7 false true false false W args v W':=by
 refine law_contract (E:=E0) (tb:=4) aiZ agH (by kernel_rfl) laid (by kernel_rfl) rfl Tryz.underlying4 rfl (fun ds hd=> ?_) hW ?_
 ·match ds,hd with
  | [d0],_=>rfl
 ·obtain ⟨p,q,hA,hV,_⟩:=hW;obtain ⟨rfl,_⟩:=trodVars_none hV;rw[Tryz.params7] at hA Rb;obtain ⟨v0,vs0,d0,ds0,p0,q0,e0,rfl,rfl,h0,r0⟩:=trodAll_cons hA;obtain ⟨rfl,rfl,rfl⟩:=trodAll_nil r0;obtain rfl:args= #[v0]:=by cases args;simp_all
  have hk:=of_decide_eq_true hk;simp only[List.append_nil,Rows.uptoBulkAll] at hk;obtain ⟨x0,n0,a0,b0,c0⟩:=afn ain (by kernel_rfl:Sj 22=true) h0 (Nw Tryz.underlying22 (Rb 0 22 v0 rfl rfl))
  have o0:=Ie _ _ _ b0;obtain ⟨y0,g0⟩:=ty22 _ _ b0;obtain rfl:=(List.cons.inj g0).1;obtain ⟨n,hn⟩:=agj y0 o0 (by omega)
  exact ⟨(PW y0).ts.map Prod.snd,ev7 n hn,a0,trivial⟩
def cellsOf:List (DataW Unit)->Array Value
 | []=> #[]
 | .lit (.int k n)::l=> #[.int k n]++cellsOf l
 |_::l=>cellsOf l
def JK:DataW Unit->Array Value
 | .agg l=>cellsOf l
 |_=> #[]
def setCells (cs:Array Value):Obj->Obj
 | .cells _ t frozen=>.cells cs t frozen
 |o=>o
def vY (os:Os):World:=
 {World.holding Tryz.prog os ⟨#[],#[],[]⟩ with
  heap:=(((World.holding Tryz.prog os ⟨#[],#[],[]⟩).heap.modify 1 (setCells (JK Rows.laid_internal_strconv_uint64pow10))).modify 2 (setCells (JK Rows.laid_math_bits_deBruijn32tab))).modify 3 (setCells (JK Rows.laid_math_bits_deBruijn64tab))}
def F5:Array Value:= #[.slice none 0 0]
theorem Ze (os:Os):laidMet Tryz.prog Rows.transactionShowsUptoRow.laid ((vY os).forCall (fun _ _=>0) ⟨#[],F5,[]⟩).memory:=
 laidMet_of_run' 80 (by kernel_rfl) (by kernel_rfl)
theorem reads (os:Os) {H:Type} (enc:TypeId×Value->H):∃places,DataW.whole enc Tryz.prog ((vY os).forCall (fun _ _=>0) ⟨#[],F5,[]⟩).memory Tryz.f7.params.toList Rows.transactionShowsSpec.vars false F5.toList 80=some ([.nil],[],places):=
 ⟨[],by kernel_rfl⟩
theorem lifted (os:Os) (started:os.Started) (H:Type) (enc:TypeId×Value->H) (F:Stop.Interp):
  ReturnsInHanded {} Tryz.checked os 7 .any ((Rows.OpenSpec.upto Rows.transactionShowsSpec).preRow enc Tryz.prog Tryz.f7 Rows.transactionShowsUptoRow.domain false Rows.transactionShowsUptoRow.laid) (((Rows.OpenSpec.upto Rows.transactionShowsSpec).at F).post enc Tryz.prog Tryz.f7 false true false false):=by
 obtain ⟨places,hx⟩:=reads os enc;refine returnsInHanded_of_row (C:=Tryz.checked) (s:=Rows.OpenSpec.upto Rows.transactionShowsSpec) own started (by kernel_rfl) Tryz.func7
  (witness_row_at (enc:=enc) (C:=Tryz.checked) false (vY os) F5 rfl (by kernel_rfl) (by kernel_rfl) (by kernel_rfl)
   (OpenSpec.preRow_of_cond 80 hx (by kernel_rfl) (fun k hk=>by cases hk;kernel_rfl) (by kernel_rfl) (Ze os))) ?_
 intro W base args ds gs before Rb hW _ hk _ hL _ _;exact aat H enc W base args ds gs before Rb hW (hk _ rfl)
theorem said:Rows.TransactionShowsUptoSaid:=
 OpenClaim.holds_of_cond 7 Tryz.f7 rfl rfl rfl rfl rfl rfl rfl ⟨rfl,rfl,rfl,rfl,rfl⟩ rfl rfl rfl rfl rfl (by kernel_rfl) Tryz.func7 closed
  (of_decide_eq_true (by kernel_rfl)) (by unfold Func.isWrapper;first|(rw[if_pos (by decide+kernel)];kernel_rfl)|(rw[if_neg (by decide+kernel)];exact ⟨rfl,rfl⟩))
  (fun os started H enc _ F=>by rw[OpenClaim.pre_eq_preRow];exact lifted os started H enc F)
theorem plain (f:FuncId) (fn:Func) (hf:Tryz.pinned.checked.prog.funcNamed Rows.transactionShowsUptoRow.func=some f) (hfn:Tryz.pinned.checked.prog.funcs[f]? =some fn):
  true=Tryz.pinned.checked.prog.looks []/\∀(j:Nat) t,fn.params[j]? =some t->Tryz.pinned.checked.prog.wantsStandIn t=false:=by
 obtain rfl:f=7:=Option.some.inj ((show Tryz.prog.funcNamed Rows.transactionShowsUptoRow.func=some 7 by kernel_rfl).symm.trans hf)|>.symm
 obtain rfl:fn=Tryz.f7:=(Option.some.inj (Tryz.func7.symm.trans hfn)).symm;refine ⟨by kernel_rfl,fun j t ht=> ?_⟩
 rw[Tryz.params7] at ht;rcases j with _|j
 ·obtain rfl:22=t:=by simpa using ht
  exact (show Tryz.prog.wantsStandIn 22=false by kernel_rfl)
 ·simp at ht
theorem proved:Rows.TransactionShowsUptoCardSaid:=
 Claim7.holds_tied_plain_at .later [] _ _ _ _ said (fun _ h=>by cases h) (by kernel_rfl) (fun _ h=>by cases h) transactionShowsUpto_row_tie rfl ⟨rfl,rfl⟩ (by kernel_rfl) rfl plain (by kernel_rfl)
end Go.Proofs.YtmealahmjddpcaaGreatDoor.law7
end
