/- The law TransactionChanges returns true at every call, and its arguments read afterwards as before. Condition: what the law reads is of bulk at most 1048576. (A machine of its own over plain data, sound against the model; then plain laws.) -/
import Derived.Test.YtmealahmjddpcaaGreatDoorCards
import Derived.Test.YtmealahmjddpcaaGreatDoorTie
import Derived.Test.YtmealahmjddpcaaGreatDoorP17
import Derived.Test.YtmealahmjddpcaaGreatDoorP8
import Derived.Test.YtmealahmjddpcaaGreatDoorP11
import Derived.Test.YtmealahmjddpcaaGreatDoorP14
import Derived.Test.YtmealahmjddpcaaGreatDoorP13
set_option linter.all false
set_option maxRecDepth 100000
noncomputable section
namespace Go.Proofs.YtmealahmjddpcaaGreatDoor.law4
open Go.ChangeShapes Go.WideShapes Go.ChangeAt Go.RowKit Go.Sim
theorem own:ownKnob Tryz.prog.godebug=none:=by kernel_rfl
theorem laid:laidOutB Tryz.prog=true:=by kernel_rfl
theorem R0:BW Tryz.prog 15 (.bool true):=by
 obtain ⟨h',hr⟩:=U7 runB;exact afo (E:=env [] [] [] [] [] [] []) (Fl.envS (fun k v h=>by cases h) (fun k t h=>by cases h) (fun m h=>by cases h)) (Fl.adU (fun a b r h=>by cases h) (fun a b r h=>by cases h)) hr (by kernel_rfl) (fun fn hf=>by
  cases hf;kernel_rfl)
theorem aji:jk E0:=Fl.envS (fun k v h=>by
 have h:sel (Nat.beq 15 k) (some (.bool true)) none=some v:=h;obtain ⟨h1,h2⟩:=aq h;cases h2;obtain rfl:=(beq_iff _ _).1 h1;exact R0) (fun k t h=>by cases h) (fun m h=>by cases h)
theorem agE (W:World):bu E0 (gW E0.P W):=by
 have h:bu E0 (gh0 E0.P fun _=>0):=Fl.adU (fun a b r h=>by cases h) (fun a b r h=>by cases h)
 exact ⟨h.ty,h.fn,h.lt,h.eq,h.mix,h.sz⟩
theorem aay (H:Type) (enc:TypeId×Value→H) (W:World) (base:Nat) (args:Array Value) (ds gs:List (DataW H)) (before:List MemPlace)
  (DI:∀(j:Nat) t v,Tryz.f4.params[j]? =some t→args[j]? =some v→Value.okWide Tryz.prog W .any base t v)
  (hW:DataW.Whole enc Tryz.prog Tryz.f4.params.toList Rows.transactionChangesSpec.vars false W args.toList ds gs before) (hk:Rows.uptoSmall H (ds++gs)=true):
  Calls Tryz.prog 4 args W fun e W'=>∃v,e= .returned v∧Rows.transactionChangesSpec.post enc Tryz.prog Tryz.f4 false true false false W args v W':=by
 refine law_contract (E:=E0) (tb:=4) aji agE (by kernel_rfl) laid (by kernel_rfl) rfl Tryz.underlying4 rfl (fun ds hd=> ?_) hW ?_
 ·match ds,hd with
  | [d0,d1,d2],_=>rfl
 ·obtain ⟨p,q,hA,hV,_⟩:=hW;obtain ⟨rfl,_⟩:=trodVars_none hV;rw[Tryz.params4] at hA DI;obtain ⟨v0,vs0,d0,ds0,p0,q0,e0,rfl,rfl,h0,r0⟩:=trodAll_cons hA;obtain ⟨v1,vs1,d1,ds1,p1,q1,e1,rfl,rfl,h1,r1⟩:=trodAll_cons r0;obtain ⟨v2,vs2,d2,ds2,p2,q2,e2,rfl,rfl,h2,r2⟩:=trodAll_cons r1;obtain ⟨rfl,rfl,rfl⟩:=trodAll_nil r2;obtain rfl:args= #[v0,v1,v2]:=by cases args;simp_all
  have hk:=of_decide_eq_true hk;simp only[List.append_nil,Rows.uptoBulkAll] at hk;obtain ⟨x0,n0,a0,b0,c0⟩:=Pa PJ (by kernel_rfl:Eb 22=true) h0 (yz Tryz.underlying22 (DI 0 22 v0 rfl rfl))
  have o0:=sS _ _ _ b0;obtain ⟨y0,g0⟩:=ty22 _ _ b0;obtain rfl:=(List.cons.inj g0).1;obtain ⟨x1,n1,a1,b1,c1⟩:=Pa PJ (by kernel_rfl:Eb 23=true) h1 (yz Tryz.underlying23 (DI 1 23 v1 rfl rfl))
  have o1:=sS _ _ _ b1;obtain ⟨y1,g1⟩:=ty23 _ _ b1;obtain rfl:=(List.cons.inj g1).1;obtain ⟨z2,w2⟩:=NR Tryz.underlying33 (DI 2 33 v2 rfl rfl);obtain ⟨x2,n2,a2,b2,c2⟩:=afw PJ (by kernel_rfl:Eb 33=true) h2 w2
  have o2:=sS _ _ _ b2;obtain ⟨y2,rfl⟩:=ty33 _ _ b2;obtain ⟨n,hn⟩:=vn y0 y1 y2 o0 o1 o2 (by omega)
  exact ⟨(PR y0 y1 y2).ts.map Prod.snd,ev4 n hn,a0,a1,a2,trivial⟩
def cellsOf:List (DataW Unit)→Array Value
 | []=> #[]
 | .lit (.int k n)::l=> #[.int k n]++cellsOf l
 |_::l=>cellsOf l
def JH:DataW Unit→Array Value
 | .agg l=>cellsOf l
 |_=> #[]
def setCells (cs:Array Value):Obj→Obj
 | .cells _ t frozen=>.cells cs t frozen
 |o=>o
def vx (os:Os):World:=
 {World.holding Tryz.prog os ⟨#[],#[],[]⟩ with
  heap:=(((World.holding Tryz.prog os ⟨#[],#[],[]⟩).heap.modify 1 (setCells (JH Rows.laid_internal_strconv_uint64pow10))).modify 2 (setCells (JH Rows.laid_math_bits_deBruijn32tab))).modify 3 (setCells (JH Rows.laid_math_bits_deBruijn64tab))}
def Fj:Array Value:= #[.slice none 0 0,.slice none 0 0,.agg #[.slice none 0 0]]
theorem Zp (os:Os):laidMet Tryz.prog Rows.transactionChangesUptoRow.laid ((vx os).forCall (fun _ _=>0) ⟨#[],Fj,[]⟩).memory:=
 laidMet_of_run' 80 (by kernel_rfl) (by kernel_rfl)
theorem reads (os:Os) {H:Type} (enc:TypeId×Value→H):∃places,DataW.whole enc Tryz.prog ((vx os).forCall (fun _ _=>0) ⟨#[],Fj,[]⟩).memory Tryz.f4.params.toList Rows.transactionChangesSpec.vars false Fj.toList 80=some ([.nil,.nil,.agg [.nil]],[],places):=
 ⟨[],by kernel_rfl⟩
theorem lifted (os:Os) (started:os.Started) (H:Type) (enc:TypeId×Value→H) (F:Stop.Interp):
  ReturnsInHanded {} Tryz.checked os 4 .any ((Rows.OpenSpec.upto Rows.transactionChangesSpec).preRow enc Tryz.prog Tryz.f4 Rows.transactionChangesUptoRow.domain false Rows.transactionChangesUptoRow.laid) (((Rows.OpenSpec.upto Rows.transactionChangesSpec).at F).post enc Tryz.prog Tryz.f4 false true false false):=by
 obtain ⟨places,hx⟩:=reads os enc;refine returnsInHanded_of_row (C:=Tryz.checked) (s:=Rows.OpenSpec.upto Rows.transactionChangesSpec) own started (by kernel_rfl) Tryz.func4
  (witness_row_at (enc:=enc) (C:=Tryz.checked) false (vx os) Fj rfl (by kernel_rfl) (by kernel_rfl) (by kernel_rfl)
   (OpenSpec.preRow_of_cond 80 hx (by kernel_rfl) (fun k hk=>by cases hk;kernel_rfl) (by kernel_rfl) (Zp os))) ?_
 intro W base args ds gs before DI hW _ hk _ hL _ _;exact aay H enc W base args ds gs before DI hW (hk _ rfl)
theorem said:Rows.TransactionChangesUptoSaid:=
 OpenClaim.holds_of_cond 4 Tryz.f4 rfl rfl rfl rfl rfl rfl rfl ⟨rfl,rfl,rfl,rfl,rfl⟩ rfl rfl rfl rfl rfl (by kernel_rfl) Tryz.func4 closed
  (of_decide_eq_true (by kernel_rfl)) (by unfold Func.isWrapper;first|(rw[if_pos (by decide+kernel)];kernel_rfl)|(rw[if_neg (by decide+kernel)];exact ⟨rfl,rfl⟩))
  (fun os started H enc _ F=>by rw[OpenClaim.pre_eq_preRow];exact lifted os started H enc F)
theorem plain (f:FuncId) (fn:Func) (hf:Tryz.pinned.checked.prog.funcNamed Rows.transactionChangesUptoRow.func=some f) (hfn:Tryz.pinned.checked.prog.funcs[f]? =some fn):
  true=Tryz.pinned.checked.prog.looks []∧∀(j:Nat) t,fn.params[j]? =some t→Tryz.pinned.checked.prog.wantsStandIn t=false:=by
 obtain rfl:f=4:=Option.some.inj ((show Tryz.prog.funcNamed Rows.transactionChangesUptoRow.func=some 4 by kernel_rfl).symm.trans hf)|>.symm
 obtain rfl:fn=Tryz.f4:=(Option.some.inj (Tryz.func4.symm.trans hfn)).symm;refine ⟨by kernel_rfl,fun j t ht=> ?_⟩
 rw[Tryz.params4] at ht;rcases j with _|_|_|j
 ·obtain rfl:22=t:=by simpa using ht
  exact (show Tryz.prog.wantsStandIn 22=false by kernel_rfl)
 ·obtain rfl:23=t:=by simpa using ht
  exact (show Tryz.prog.wantsStandIn 23=false by kernel_rfl)
 ·obtain rfl:33=t:=by simpa using ht
  exact (show Tryz.prog.wantsStandIn 33=false by kernel_rfl)
 ·simp at ht
theorem proved:Rows.TransactionChangesUptoCardSaid:=
 Claim7.holds_tied_plain_at .later [] _ _ _ _ said (fun _ h=>by cases h) (by kernel_rfl) (fun _ h=>by cases h) transactionChangesUpto_row_tie rfl ⟨rfl,rfl⟩ (by kernel_rfl) rfl plain (by kernel_rfl)
end Go.Proofs.YtmealahmjddpcaaGreatDoor.law4
end
