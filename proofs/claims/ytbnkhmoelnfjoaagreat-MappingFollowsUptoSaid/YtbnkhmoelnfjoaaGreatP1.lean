/- Part. -/
import Derived.WalkKit
import Derived.RangeFuncLeaves
import Derived.OrdersIn
import Derived.WalkLawsBesides
import Derived.Great.BuildSlice
import Derived.Deep.AppendSrc
import Derived.Laws.CopyRow
import Derived.Laws.AppendOwn
import Derived.Great.FillDense
import Derived.Laws.MakeOwn
import Derived.MapKept
import Derived.RangeFuncCalls
import Derived.Lib.Bytealg
import Derived.Laws.Externs
import Derived.Maps.RangeRun
import Derived.RangeFuncRecord
import Derived.RecoverIn
set_option linter.all false
abbrev Go.A:=@Option
abbrev Go.Z:=ByteArray
open Option renaming some->V,none->G
open Bool renaming true->M,false->B
open Go renaming TypeId->ll,Value->BL,Operand->C',Program->E',IntKind->KH,BinOp->S',MapEntry->Z',Oper->N',Code->Mn,ResultVar->ab0
open Nat renaming ble->kN,beq->iX,add->p8,mul->A',sub->X',succ->J',div->O',mod->aa1
open Go.Sem renaming run_bind->B',run_pure->E2,run_ite->ab4
open Go.Result renaming andThen_ok->D'
open Go.Op renaming operands->I',equalIn->ab3
open Decidable renaming decide->U
open Int renaming ofNat->ab1
open Go.Builtin renaming len_->ab2,append_->aa7,firstCells->ab5,copy_->aa4
open Go.Utf8 renaming decode->V'
open Go.Instr renaming sureAddr->ab7,sliceAt->ac0
open Go.Fence renaming wide->aa6
open Go.MapKept renaming run_getObj_map->ac3
open List renaming replicate->P'
open Go.ByteArray renaming toList_eq->ac2
open Go.Region renaming wanted->ab8
noncomputable section
namespace Go.bL
def lp:=@Option.some.inj
def rH:=@of_decide_eq_true
def rG:=@List.append_nil
def abo:=@List.cons.inj
def aF:=@if_pos
def aC:=@if_neg
def bH:=@congrArg
def tP:=@Nat.le_of_eq
def kP:=@Nat.le_trans
def Oj:=@of_decide_eq_false
def HF:=@Bool.false_ne_true
def vD:=@List.map_take
def Bz:=@List.map_drop
def lL:=@List.pairwise_cons
def da:=@List.mem_cons
def iU:=@List.length_cons
def auP:=@List.range_succ_eq_map
def je:=@List.filter_cons
def rI:=@decide_eq_true
def vC:=@List.map_map
def D1:=@decide_eq_false
def ki:=@List.map_cons
def oI:=@Array.getElem?_eq_some_iff
def LQ:=@Array.getElem?_modify
def qp:=@Ne.symm
def bK:=@List.getElem?_eq_some_iff
def By:=@Array.getElem?_eq_getElem
def LP:=@Option.map_some
def cX:=@List.getElem?_eq_getElem
def cS:=@Nat.le_refl
def pG:=@List.nodup_cons
def Hv:=@List.mem_map_of_mem
def D0:=@List.filter_eq_self
def j2:=@decide_eq_true_eq
def SH:=@List.filter_congr
def oa:=@Bool.eq_iff_iff
def adP:=@Bool.not_eq_true'
def bJ:=@Bool.and_eq_true
def adO:=@Bool.not_eq_true
def eV:=@List.mem_append
def gg:=@List.mem_singleton
def sP:=@List.length_eq_zero_iff
def pF:=@List.drop_zero
def iT:=@List.take_of_length_le
def j1:=@List.all_eq_true
def mD:=@List.mem_filter
def sO:=@Nat.le_succ
def LO:=@Nat.lt_succ_self
def gf:=@List.length_append
def kh:=@List.map_append
def lr:=@List.append_assoc
def adN:=@Bool.eq_false_iff
def yV:=@List.take_zero
def j0:=@List.nil_append
def uq:=@List.drop_of_length_le
def yU:=@Nat.lt_of_not_le
def xg:=@Nat.le_of_ble_eq_true
def dJ:=@List.mem_map
def DZ:=@List.map_congr_left
def SF:=@Nat.eq_zero_or_pos
def oH:=@Nat.add_zero
def adM:=@Array.getElem?_setIfInBounds
def rF:=@Nat.sub_self
def uo:=@List.getElem?_cons_succ
def jq:=@List.length_drop
def Bw:=@Nat.sub_mul
def fh:=@List.getElem?_drop
def oG:=@List.mem_of_mem_drop
def gL:=@Nat.add_assoc
def fw:=@List.getElem?_take
def mC:=@Array.getElem?_toList
def Hu:=@List.getElem_of_mem
def nZ:=@List.getElem_mem
def xf:=@List.map_nil
def LN:=@Array.getElem?_append_left
def LM:=@List.getElem?_toArray
def SD:=@Nat.min_def
def dE:=@List.length_take
def sM:=@List.getElem?_append
def fu:=@Nat.min_eq_left
def cq:=@Nat.zero_add
def Ht:=@Array.getElem?_eq_none
def adL:=@Bool.or_eq_false_iff
def my:=@List.length_map
def Hs:=@Nat.mul_one
def Bv:=@Nat.lt_of_lt_of_le
def Bu:=@List.range'_succ
def LL:=@List.range_eq_range'
def Bt:=@Array.ext'
def jd:=@Bool.true_and
def DY:=@List.nodup_append
def DX:=@List.map_set
def Hr:=@List.set_getElem_self
def iu:=@List.mem_append_left
def jo:=@List.mem_append_right
def ng:=@Nat.zero_mul
def dW:=@List.mem_cons_of_mem
def pE:=@List.getElem?_append_left
def kg:=@List.mem_cons_self
def nY:=@List.getElem?_append_right
def fS:=@Nat.add_mul
def j4:=@Bool.and_eq_true_iff
def sU:=@Bool.or_eq_true
def wD:=@Option.map_eq_some_iff
def W6:=@List.mem_or_eq_of_mem_set
def kp:=@List.length_set
def wC:=@List.cons_append
def W5:=@List.Sublist.append_left
def OC:=@List.sublist_append_right
def bU:=@List.mem_of_getElem?
def jn:=@Nat.mul_le_mul_right
def W4:=@Nat.min_eq_right
def lX:=@List.take_take
def og:=@List.mem_of_mem_take
def qm:=@List.flatten_cons
def W3:=@List.take_left
def W0:=@List.drop_left
def yh:=@List.take_append_drop
def OB:=@List.nil_sublist
def OA:=@Option.isSome_iff_exists
def ql:=@Classical.byContradiction
def uR:=@Option.ne_none_iff_exists'
def ry:=@List.all_cons
def DA:=@List.length_nil
def Oz:=@Array.length_toList
def sS:=@List.drop_drop
def uQ:=@List.filter_append
def yg:=@List.filter_eq_nil_iff
def uP:=@List.eq_nil_of_length_eq_zero
def WZ:=@List.eq_nil_iff_forall_not_mem
def uO:=@Array.getD_eq_getD_getElem?
def wB:=@List.append_of_mem
def Oy:=@List.mem_range
def WY:=@Array.getElem?_replicate
def ax:=@if_true
def wA:=@List.foldl_cons
def wy:=@List.mem_flatMap
def Ox:=@Nat.le_add_right
def ru:=@Nat.zero_le
def WX:=@Option.some.injEq
def oe:=@List.getElem?_map
def nF:=@List.take_length
def wx:=@List.drop_take
def uN:=@List.length_replicate
def j3:=@List.getElem?_set_self
def uM:=@List.set_set
def HE:=@List.length_pos_iff
def wv:=@List.set_append_right
def uL:=@List.drop_eq_getElem_cons
def qk:=@List.take_add_one
def HD:=@List.take_left'
def WW:=@List.mapM_cons
def sR:=@beq_iff_eq
def sQ:=@Nat.one_mul
def ak:=@Option.bind_some
def wu:=@List.ext_getElem?
def oW:=@List.getElem?_eq_none
def jJ:=@bne_self_eq_false
def az:=@Bool.false_eq_true
def au:=@if_false
def Dz:=@Nat.add_comm
def WV:=@List.take_succ_cons
def HC:=@List.take_length_add_append
def WU:=@List.Sublist.refl
def alY:=@List.drop_length_add_append
def alX:=@List.take_append_of_le_length
def alW:=@List.drop_append_of_le_length
def alV:=@List.append_eq_nil_iff
def Dy:=@Nat.le_zero
def WT:=@Int.ofNat.inj
def WR:=@List.replicate_succ
def Ah:=@UInt8.lt_irrefl
def Ov:=@UInt8.not_lt
def aR:=@decide_false
def aO:=@decide_true
def gB:=@Bool.not_false
def dh:=@Bool.not_true
def gR:=@Bool.false_and
def lC:=@Bool.eq_false_or_eq_true
def qi:=@Bool.and_self
def Dx:=@Bool.and_false
def HB:=@List.take_succ
def HA:=@Option.toList_some
def WQ:=@ByteArray.size_append
def gQ:=@beq_self_eq_true
def WO:=@beq_eq_false_iff_ne
def Ou:=@decide_eq_decide
def Ot:=@beq_false_of_ne
def mE:=@List.getElem?_set_ne
def Ag:=@List.getElem?_of_mem
def WN:=@Int.toNat_of_nonneg
def WM:=@List.pairwise_append
def Hz:=@Int.toNat_natCast
def wm:=@List.getElem?_cons_zero
def alU:=@List.getLast?_eq_getElem?
def Oq:=@List.getLast_mem
def WL:=@List.singleton_append
def Hy:=@List.flatMap_cons
def Oo:=@List.isEmpty_nil
def On:=@List.mem_filterMap
def yf:=@List.length_reverse
def WK:=@List.mem_reverse
def WJ:=@List.pairwise_iff_getElem
def WI:=@List.getLast?_cons_cons
def Om:=@List.mem_of_getLast?
def Af:=@Option.getD_some
def Hx:=@Option.getD_none
def Ol:=@Option.map_none
def Hw:=@Int.ofNat_eq_natCast
inductive SI where
 |lit (n:Int)
 deriving Inhabited
def SI.ev (η:Nat->Int):SI->Int
 | .lit n=>n
def iD:KH->KH->Bool
 | .i8,.i8| .i16,.i16| .i32,.i32| .i64,.i64| .u8,.u8| .u16,.u16| .u32,.u32| .u64,.u64=>M
 |_,_=>B
def J4:Int->Int->Bool
 | .ofNat a,.ofNat b=>iX a b
 | .negSucc a,.negSucc b=>iX a b
 |_,_=>B
def Dd:Int->Int->Bool
 | .ofNat a,.ofNat b=>kN (a+1) b
 | .negSucc _,.ofNat _=>M
 | .ofNat _,.negSucc _=>B
 | .negSucc a,.negSucc b=>kN (b+1) a
def SI.eqb:SI->SI->Bool
 | .lit a,.lit b=>J4 a b
inductive Cp where
 |k (n:Nat)
 |u (e:ll)
 deriving Inhabited
inductive SV where
 |bool (b:Bool)
 |int (k:KH) (e:SI)
 |str (s:ByteArray)
 |ptr (id off:Nat)
 |vN
 |sl (id off n:Nat) (cap:Cp)
 |sle
 |cr
 |mp (id:Nat)
 |pT
 |fn (f:Fn) (first kz:List SV)
 |vf
 |agg (cs:List SV)
 |dq (vs:List SV)
 |undef
 deriving Inhabited
inductive Tr (J:Type) where
 |nil
 |node (l:Tr J) (v:Option J) (r:Tr J)
 deriving Inhabited
@[reducible] def aS {J:Type} (b:Bool) (x y:J):J:= @Bool.rec (λ_=>J) y x b
def Tr.get {J:Type} (t:Tr J):Nat->A J:=
 @Tr.rec J (λ_=>Nat->A J) (λ_=>G) (λ_ v _ gl gr i=> @Bool.rec (λ_=>A J) (@Bool.rec (λ_=>A J) (gr (X' (O' i 2) 1)) (gl (O' i 2)) (iX (aa1 i 2) 1)) v (iX i 0)) t
def Tr.Mh {J:Type} (n:Nat):Tr J->Nat->A J->Tr J:=
 @Nat.rec (λ_=>Tr J->Nat->A J->Tr J) (λt _ _=>t) (λ_ ih t i x=>
  @Tr.rec J (λ_=>Tr J)
   (@Bool.rec (λ_=>Tr J) (@Bool.rec (λ_=>Tr J) (.node .nil G (ih .nil (X' (O' i 2) 1) x)) (.node (ih .nil (O' i 2) x) G .nil) (iX (aa1 i 2) 1)) (.node .nil x .nil) (iX i 0))
   (λl v r _ _=> @Bool.rec (λ_=>Tr J) (@Bool.rec (λ_=>Tr J) (.node l v (ih r (X' (O' i 2) 1) x)) (.node (ih l (O' i 2) x) v r) (iX (aa1 i 2) 1)) (.node l x r) (iX i 0)) t) n
def Tr.set {J:Type} (t:Tr J) (i:Nat) (x:A J):Tr J:=Tr.Mh (J' i) t i x
inductive SO where
 |cells (e:ll) (cs:List SV)
 |map (es:List (SV×SV×Nat)) (clock:Nat)
 |qo (s:ByteArray) (pos:Nat)
 |mapIter (map:Option Nat) (since:Nat) (seen:List Nat) (aWm:Nat)
 |dfr
 |ro (cs:List SV)
 deriving Inhabited
structure FL where
 type:ll
 off:Nat
 named:Bool
inductive UD where
 |bool|int (k:KH)|string|pointer|slice (e:ll)|array (n:Nat) (e:ll)|map (k e:ll)|struct (fs:List FL)|func|interface|other
 deriving Inhabited
structure TI where
 desc:UD
 size:Nat
 bytes:Nat
 zero:List SV
 comparable:Bool
 deriving Inhabited
structure Env where
 P:E'
 ty:Tr TI
 fn:Tr Func
 lt:List (SI×SI×Bool)
 eq:List (SI×SI×Bool)
 done:List (Nat×SV):= []
 join:List Nat:= []
 apJ:List (Nat×Nat):= []
 memo:List Nat:= []
 stop:List Nat:= []
def FT (E:Env):SI->SI->A Bool
 | .lit a,.lit b=>V (Dd a b)
def eqI (E:Env):SI->SI->A Bool
 | .lit x,.lit y=>V (J4 x y)
def o7 {J:Type} (P:E'):Sem J->A J
 | .pure a=>V a
 | .program k=>o7 P (k P)
 |_=>G
mutual
def wO:BL->SV
 | .bool b=>.bool b
 | .int k n=>.int k (.lit n)
 | .string s=>.str s
 | .pointer G=>.vN
 | .slice G 0 0=>.cr
 | .map G=>.pT
 | .nilFunc=>.vf
 | .agg ⟨cs⟩=>aS (cs.all Value.oneCell') (.agg (ue cs)) .undef
 | .tuple ⟨cs⟩=>.dq (ue cs)
 |_=>.undef
def ue:List BL->List SV
 | []=> []
 |v::vs=>wO v::ue vs
end
abbrev Hp:=Tr SO
abbrev Hf:=Nat->A SO
abbrev Up:=Nat×A SO
abbrev Tf:=Nat->A SV
abbrev iC:=List (SV×SV×Nat)
abbrev gN:=A (SV×List Up)
abbrev bf:=List SV
abbrev bP:=List Nat
abbrev hJ:=List Up
abbrev nS:=List N'
abbrev eY:=Array N'
abbrev gb:=A SV
abbrev cB:=A Nat
abbrev fM:=List BL
abbrev jP:=Array BL
abbrev LJ:=Tr SV
def dt (tm:Tf):C'->gb
 | .tmp t=>tm t
 | .const v=>V (wO v)
 | .global _=>G
 | .func f=>V (.fn (.func f) [] [])
def SV.cells (x:SV):A bf:=match x with
 | .bool b=>V [.bool b]
 | .int k e=>V [.int k e]
 | .str s=>V [.str s]
 | .ptr i o=>V [.ptr i o]
 | .vN=>V [.vN]
 | .sl a b c d=>V [.sl a b c d]
 | .sle=>V [.sle]
 | .cr=>V [.cr]
 | .mp i=>V [.mp i]
 | .pT=>V [.pT]
 | .fn f a c=>V [.fn f a c]
 | .vf=>V [.vf]
 | .agg cs=>V cs
 |_=>G
def nq (d:UD):Bool:=match d with
 | .array _ _=>M
 | .struct _=>M
 |_=>B
def Y9:SI->cB
 | .lit (.ofNat n)=>V n
 |_=>G
def aAN (x:SV):A (Nat×Nat×Nat×Cp):=match x with
 | .sl i o n c=>V (i,o,n,c)
 |_=>G
def oE (x:SV):cB:=match x with
 | .int _ e=>Y9 e
 |_=>G
def uH (x:SV):A Bool:=match x with
 | .bool b=>V b
 |_=>G
def intOf (x:SV):A (KH×SI):=match x with
 | .int k e=>V (k,e)
 |_=>G
def strOf (x:SV):A Z:=match x with
 | .str s=>V s
 |_=>G
def xD (x:SV):A (Nat×Nat):=match x with
 | .ptr i o=>V (i,o)
 |_=>G
def PF (x:SV):A bf:=match x with
 | .agg cs=>V cs
 |_=>G
def SL (x:SV):A bf:=match x with
 | .dq cs=>V cs
 |_=>G
def aBh (x:SV):cB:=match x with
 | .mp i=>V i
 |_=>G
def Ry (x:SV):cB:=match x with
 | .sl _ _ n _=>V n
 | .sle=>V 0
 | .cr=>V 0
 |_=>G
def MG (x:SV):Bool:=match x with
 | .sl _ _ _ _=>M
 | .sle=>M
 | .cr=>M
 |_=>B
def abA (x:SV):gb:=match x with
 | .ptr i o=>V (.ptr i o)
 | .fn f a c=>V (.fn f a c)
 |_=>G
def jr (i:TI) (cs:bf) (off:Nat):gb:=
 aS (nq i.desc) (aS (kN (p8 off i.size) cs.length) (V (.agg ((cs.drop off).take i.size))) G) (cs[off]?)
def eJ (cs:bf) (off:Nat) (xs:bf):bf:=cs.take off++xs++cs.drop (p8 off xs.length)
def ay {J γ:Type} (x:A J) (f:J->A γ):A γ:= @Option.rec J (λ_=>A γ) G f x
def cj {J g7 γ:Type} (x:A J) (y:A g7) (f:J->g7->A γ):A γ:= @Option.rec J (λ_=>A γ) G (λa=> @Option.rec g7 (λ_=>A γ) G (f a) y) x
def ug {J g7 δ γ:Type} (x:A J) (y:A g7) (z:A δ) (f:J->g7->δ->A γ):A γ:=ay x λa=>cj y z λb c=>f a b c
def andThen (r:A Bool) (k:A Bool):A Bool:=
 match r with
 |some M=>k
 |r=>r
def Kr (E:Env) (eq:ll->SV->SV->A Bool) (xs ys:bf):List FL->A Bool
 | []=>V M
 |f::fs=>aS f.named (ay (E.ty.get f.type) λi=>cj (jr i xs f.off) (jr i ys f.off) λx y=>andThen (eq f.type x y) (Kr E eq xs ys fs)) G
def ayJ (x y:SV):A Bool:=cj (uH x) (uH y) λa b=>V (a==b)
def aSs (E:Env) (x y:SV):A Bool:=cj (intOf x) (intOf y) λa b=>aS (iD a.1 b.1) (eqI E a.2 b.2) G
def uG:List UInt8->List UInt8->Bool
 | [],[]=>M
 |a::l,b::m=>iX a.toNat b.toNat&&uG l m
 |_,_=>B
def GP (a b:Z):Bool:=uG a.data.toList b.data.toList
def eqStr (x y:SV):A Bool:=cj (strOf x) (strOf y) λa b=>V (GP a b)
def arD:SV->SV->A Bool
 | .vN,.vN=>V M
 | .vN,.ptr _ _=>V B
 | .ptr _ _,.vN=>V B
 |_,_=>G
def aCE:SV->SV->A Bool
 | .cr,.cr=>V M
 | .cr,.sl _ _ _ _=>V B
 | .sl _ _ _ _,.cr=>V B
 |_,_=>G
def arE:SV->SV->A Bool
 | .pT,.pT=>V M
 | .pT,.mp _=>V B
 | .mp _,.pT=>V B
 |_,_=>G
def aCH:SV->SV->A Bool
 | .vf,.vf=>V M
 | .vf,.fn _ _ _=>V B
 | .fn _ _ _,.vf=>V B
 |_,_=>G
def azv (x y:SV):A (bf×bf):=cj (PF x) (PF y) λxs ys=>V (xs,ys)
def aCD (E:Env) (eq:ll->SV->SV->A Bool) (t:ll) (fs:List FL) (x y:SV):A Bool:=ay (azv x y) λp=>aS (E.P.stoodInHeld t) G (Kr E eq p.1 p.2 fs)
def eqD (d:UD):Env->(ll->SV->SV->A Bool)->ll->SV->SV->A Bool:=match d with
 | .bool=>λ_ _ _ x y=>ayJ x y
 | .int _=>λE _ _ x y=>aSs E x y
 | .string=>λ_ _ _ x y=>eqStr x y
 | .pointer=>λ_ _ _ x y=>arD x y
 | .slice _=>λ_ _ _ x y=>aCE x y
 | .map _ _=>λ_ _ _ x y=>arE x y
 | .struct fs=>λE eq t x y=>aCD E eq t fs x y
 | .func=>λ_ _ _ x y=>aCH x y
 |_=>λ_ _ _ _ _=>G
def eqT (E:Env) (n:Nat):ll->SV->SV->A Bool:=
 @Nat.rec (λ_=>ll->SV->SV->A Bool) (λ_ _ _=>G) (λ_ eq t x y=>ay (E.ty.get t) λi=>eqD i.desc E eq t x y) n
def isConst:C'->Bool
 | .const _=>M
 |_=>B
def aCG (E:Env) (t:ll) (ox oy:C') (x:SV):Bool:=
 match x with
 | .agg _=> !E.P.eqGuardType E.P.depth t
 |_=>M
def Kq (E:Env) (t:ll) (ox oy:C') (x y:SV):A Bool:=aS (aCG E t ox oy x) (eqT E 20 t x y) G
def mi (neg:Bool) (r:A Bool):gb:=ay r λb=>V (.bool (aS neg (!b) b))
def JR (r:A BL):gb:=ay r λv=>V (wO v)
def abD (E:Env) (op:S') (t:ll) (k k':KH):SI->SI->gb
 | .lit m,.lit n=>JR (o7 E.P (binOp op t (.int k m) (.int k' n)))
def aif (k:KH):SI->SI->SI
 | .lit m,.lit n=>.lit (k.wrap (m+n))
def Q7 (k:KH):SI->SI->SI
 | .lit m,.lit n=>.lit (k.wrap (m-n))
def aqO (o:S'):Env->S'->ll->KH->KH->SI->SI->gb:=match o with
 | .add=>λ_ _ _ k k2 a b=>aS (iD k k2) (V (.int k (aif k a b))) G
 | .sub=>λ_ _ _ k k2 a b=>aS (iD k k2) (V (.int k (Q7 k a b))) G
 | .eql=>λE _ _ k k2 a b=>aS (iD k k2) (mi B (eqI E a b)) G
 | .neq=>λE _ _ k k2 a b=>aS (iD k k2) (mi M (eqI E a b)) G
 | .lss=>λE _ _ k k2 a b=>aS (iD k k2) (mi B (FT E a b)) G
 | .leq=>λE _ _ k k2 a b=>aS (iD k k2) (mi M (FT E b a)) G
 | .gtr=>λE _ _ k k2 a b=>aS (iD k k2) (mi B (FT E b a)) G
 | .geq=>λE _ _ k k2 a b=>aS (iD k k2) (mi M (FT E a b)) G
 |_=>λE op t k k2 a b=>abD E op t k k2 a b
def apP (o:S'):Env->S'->ll->Z->Z->gb:=match o with
 | .eql=>λ_ _ _ a b=>V (.bool (GP a b))
 | .neq=>λ_ _ _ a b=>V (.bool (!GP a b))
 |_=>λE op t a b=>JR (o7 E.P (binOp op t (.string a) (.string b)))
def Y4 (o:S'):Env->ll->C'->C'->SV->SV->gb:=match o with
 | .eql=>λE t ox oy x y=>mi B (Kq E t ox oy x y)
 | .neq=>λE t ox oy x y=>mi M (Kq E t ox oy x y)
 |_=>λ_ _ _ _ _ _=>G
def azc (E:Env) (op:S') (t:ll) (k:KH) (a:SI) (y:SV):gb:=ay (intOf y) λp=>aqO op E op t k p.1 a p.2
def azb (E:Env) (op:S') (t:ll) (a:Z) (y:SV):gb:=ay (strOf y) λb=>apP op E op t a b
def aDe (x:SV):Env->S'->ll->C'->C'->SV->SV->gb:=match x with
 | .int k a=>λE op t _ _ _ y=>azc E op t k a y
 | .str a=>λE op t _ _ _ y=>azb E op t a y
 |_=>λE op t ox oy x y=>Y4 op E t ox oy x y
def R0 (E:Env) (op:S') (t:ll) (ox oy:C') (x y:SV):gb:=aDe x E op t ox oy x y
def abV (k:KH):SI->SI
 | .lit n=>.lit (k.wrap n)
def aDW:SI->gb
 | .lit n=>V (.str (Utf8.encode n))
def apQ:SV->gb
 | .str s=>V (.str s)
 | .int _ e=>aDW e
 |_=>G
def abW (d:UD):SV->gb:=match d with
 | .int k=>λx=>ay (intOf x) λp=>V (.int k (abV k p.2))
 | .string=>λx=>apQ x
 |_=>λ_=>G
def Ug (E:Env) (src dst:ll) (x:SV):gb:=cj (E.ty.get src) (E.ty.get dst) λ_ i=>abW i.desc x
def TQ:UnOp->Bool
 | .not=>M
 |_=>B
def isNeg:UnOp->Bool
 | .neg=>M
 |_=>B
def unV (x:SV):UnOp->gb:=match x with
 | .bool b=>λop=>aS (TQ op) (V (.bool (!b))) G
 | .int k e=>λop=>aS (isNeg op) (V (.int k (Q7 k (.lit 0) e))) G
 |_=>λ_=>G
def unA (op:UnOp) (x:SV):gb:=unV x op
def oF (place:Nat->A (Nat×Nat)) (cs:bf):List (Nat×bf)->A bf
 | []=>V cs
 |p::rest=>ay (place p.1) λq=>aS (iX p.2.length q.2&&kN (p8 q.1 q.2) cs.length) (oF place (eJ cs q.1 p.2) rest) G
def mI (tm:Tf):List (Nat×C')->A (List (Nat×bf))
 | []=>V []
 |p::rest=>ay (dt tm p.2) λv=>cj v.cells (mI tm rest) λcs l=>V ((p.1,cs)::l)
def rep (z:bf):Nat->bf
 |0=> []
 |n+1=>z++rep z n
def Tl (E:Env) (fs:List FL) (j:Nat):A (Nat×Nat):=ay (fs[j]?) λf=>ay (E.ty.get f.type) λfi=>V (f.off,fi.size)
def uw (size:Nat) (j:Nat):A (Nat×Nat):=V (A' j size,size)
def Nv (r:A bf):gb:=ay r λcs=>V (.agg cs)
def Uk (d:UD):Env->bf->List (Nat×bf)->gb:=match d with
 | .array _ e=>λE z jC=>ay (E.ty.get e) λie=>Nv (oF (uw ie.size) z jC)
 | .struct fs=>λE z jC=>Nv (oF (Tl E fs) z jC)
 |_=>λ_ _ _=>G
def Nr (E:Env) (t:ll) (jC:List (Nat×bf)):gb:=ay (E.ty.get t) λi=>Uk i.desc E i.zero jC
def mM:A SO->A (ll×bf)
 |some (.cells e cs)=>V (e,cs)
 |_=>G
def Ly:SV->Bool
 | .undef=>M
 |_=>B
def xv:bf->Bool
 | []=>M
 |x::l=>aS (Ly x) B (xv l)
def jy (o:A SO) (off n:Nat):A (ll×bf):=
 match o with
 |some (.cells e cs)=>V (e,cs)
 |some (.ro cs)=>aS (xv ((cs.drop off).take n)) (V (0,cs)) G
 |_=>G
def ln (h:Hf) (id off n:Nat):A bf:=ay (jy (h id) off n) λp=>aS (kN (p8 off n) p.2.length) (V ((p.2.drop off).take n)) G
def rowOf (x:SV):Hf->Nat->A bf:=match x with
 | .sl i o n _=>λh size=>ln h i o (A' n size)
 | .sle=>λ_ _=>V []
 | .cr=>λ_ _=>V []
 |_=>λ_ _=>G
def wide (i:TI):Nat:=aS (nq i.desc) i.size 1
def rR (E:Env) (h:Hf) (t:ll) (v:SV):gb:=ay (xD v) λq=>ay (E.ty.get t) λi=>ay (jy (h q.1) q.2 (wide i)) λp=>jr i p.2 q.2
def xi (E:Env) (h:Hf) (t:ll) (v:SV) (a:SV):A hJ:=
 ay (xD a) λq=>ug (E.ty.get t) v.cells (mM (h q.1)) λi xs p=>aS (iX xs.length i.size&&kN (p8 q.2 xs.length) p.2.length) (V [(q.1,V (.cells p.1 (eJ p.2 q.2 xs)))]) G
def DN (E:Env) (e:ll) (id off n k:Nat):gb:=aS (kN (J' k) n) (ay (E.ty.get e) λie=>V (.ptr id (p8 off (A' k ie.size)))) G
def J6 (d:UD):Env->SV->Nat->gb:=match d with
 | .slice e=>λE x k=>ay (aAN x) λq=>DN E e q.1 q.2.1 q.2.2.1 k
 | .array n e=>λE x k=>ay (xD x) λq=>DN E e q.1 q.2 n k
 |_=>λ_ _ _=>G
def rS (E:Env) (t:ll) (x:SV) (k:Nat):gb:=ay (E.ty.get t) λi=>J6 i.desc E x k
def km (tm:Tf):A C'->A cB
 |none=>V G
 |some x=>ay (dt tm x) λv=>ay (oE v) λn=>V (V n)
def Ai (m:Cp) (l:Nat):Cp:=
 match m with
 | .k c=>.k (X' c l)
 | .u e=>.u e
def AS (id off l h size:Nat) (m:Cp):SV:=aS (iX l 0) (.sl id off h m) (aS (kN (J' l) h) (.sl id (p8 off (A' l size)) (X' h l) (Ai m l)) .sle)
def Pc (mx:cB) (h reach:Nat):Bool:=
 match mx with
 |some m=>kN h m&&kN m reach
 |none=>M
def orC (a:cB) (b:Cp):Cp:=
 match a with
 |some m=>.k m
 |none=>b
def reach (c:Cp) (n:Nat):Nat:=
 match c with
 | .k m=>m
 | .u _=>n
def HJ (c:Cp) (e:ll):Bool:=
 match c with
 | .k _=>M
 | .u e'=>iX e' e
def wG (E:Env) (e:ll) (id off n:Nat) (cap:Cp) (lo hi mx:cB):gb:=
 ay (E.ty.get e) λie=>aS (HJ cap e&&(kN (lo.getD 0) (hi.getD n)&&(kN (hi.getD n) (reach cap n)&&Pc mx (hi.getD n) (reach cap n)))) (V (AS id off (lo.getD 0) (hi.getD n) ie.size (orC mx cap))) G
def afK (s:Z) (lo hi mx:cB):gb:=
 match mx with
 |some _=>G
 |none=>aS (kN (lo.getD 0) (hi.getD s.size)&&kN (hi.getD s.size) s.size) (V (.str (s.extract (lo.getD 0) (hi.getD s.size)))) G
def oV:cB->Bool
 |some n=>iX n 0
 |none=>M
def Ef (x:SV):Env->ll->cB->cB->cB->gb:=match x with
 | .sl i o n c=>λE e lo hi mx=>wG E e i o n c lo hi mx
 | .sle=>λ_ _ lo hi mx=>aS (oV lo&&(oV hi&&mx.isNone)) (V .sle) G
 | .cr=>λ_ _ lo hi mx=>aS (oV lo&&(oV hi&&oV mx)) (V .cr) G
 |_=>λ_ _ _ _ _=>G
def afL (d:UD):Env->SV->cB->cB->cB->gb:=match d with
 | .string=>λ_ x lo hi mx=>ay (strOf x) λs=>afK s lo hi mx
 | .slice e=>λE x lo hi mx=>ay (E.ty.get e) λ_=>Ef x E e lo hi mx
 | .array n e=>λE x lo hi mx=>ay (xD x) λq=>wG E e q.1 q.2 n (.k n) lo hi mx
 |_=>λ_ _ _ _ _=>G
def aEC (hi mx:cB):Bool:=
 match mx with
 |some _=>hi.isSome
 |none=>M
def y6 (E:Env) (t:ll) (x:SV) (lo hi mx:cB):gb:=ay (E.ty.get t) λi=>aS (aEC hi mx) (afL i.desc E x lo hi mx) G
def Iw (s:Z):bf:=s.data.toList.map λb=>.int .u8 (.lit b.toNat)
def BH (h:Hf) (size:Nat) (x:SV):A (Nat×bf):=cj (Ry x) (rowOf x h size) λn xs=>V (n,xs)
def srcV (x:SV):Hf->Nat->SV->A (Nat×bf):=match x with
 | .str b=>λ_ size _=>aS (iX size 1) (V (b.size,Iw b)) G
 |_=>λh size x=>BH h size x
def oZ (h:Hf) (size:Nat) (x:SV):A (Nat×bf):=srcV x h size x
def mL (ie:TI):Bool:=kN ie.bytes 65536&&(kN 1 ie.size&&iX ie.zero.length ie.size)
def C9 (new:Nat) (e:ll) (n:Nat) (cs:bf) (us:hJ):gN:=V (.sl new 0 n (.u e),us++ [(new,V (.cells e cs))])
def aca (new:Nat) (e:ll) (size id off n:Nat) (cap:Cp) (m:Nat) (xs:bf) (p:ll×bf) (old:bf):gN:=
 match cap with
 | .k c=>
  aS (kN (p8 n m) c)
   (aS (kN (p8 off (A' (p8 n m) size)) p.2.length) (V (.sl id off (p8 n m) cap,[(id,V (.cells p.1 (eJ p.2 (p8 off (A' n size)) xs)))])) G)
   (C9 new e (p8 n m) (old++xs) [])
 | .u _=>aS (kN (p8 off (A' n size)) p.2.length&&iX e p.1) (C9 new e (p8 n m) (old++xs) [(id,G)]) G
def abM (n m:Nat):Cp->Bool
 | .k c=>kN (J' c) (p8 n m)
 | .u _=>B
def Gu (h:Hf) (new:Nat) (e:ll) (size m:Nat) (xs:bf) (id off n:Nat) (cap:Cp):gN:=aS (kN n 1000000) (aS (abM n m cap) (ay (ln h id off (A' n size)) λold=>C9 new e (p8 n m) (old++xs) []) (cj (mM (h id)) (ln h id off (A' n size)) λp old=>aca new e size id off n cap m xs p old)) G
def r9 (x:SV):Hf->Nat->ll->Nat->Nat->bf->gN:=match x with
 | .sl i o n c=>λh new e size m xs=>Gu h new e size m xs i o n c
 | .cr=>λ_ new e _ m xs=>C9 new e m xs []
 |_=>λ_ _ _ _ _ _=>G
def PD (E:Env) (h:Hf) (new:Nat) (e:ll) (s x:SV):gN:=
 ay (E.ty.get e) λie=>aS (mL ie) (ay (oZ h ie.size x) λq=>aS (kN q.1 1000000) (aS (iX q.1 0) (aS (MG s) (V (s,[])) G) (r9 s h new e ie.size q.1 q.2)) G) G
def oM (d:UD):A ll:=match d with
 | .slice e=>V e
 |_=>G
def mP (E:Env) (h:Hf) (new:Nat) (t:ll) (s x:SV):gN:=ay (E.ty.get t) λi=>ay (oM i.desc) λe=>PD E h new e s x
def Iu (h:Hf) (size n:Nat) (xs:bf) (id off:Nat):gN:=ay (mM (h id)) λp=>aS (kN (p8 off (A' n size)) p.2.length) (V (.int .i64 (.lit (.ofNat n)),[(id,V (.cells p.1 (eJ p.2 off (xs.take (A' n size)))))])) G
def E1 (x:SV):Hf->Nat->Nat->bf->gN:=match x with
 | .sl i o _ _=>λh size n xs=>Iu h size n xs i o
 | .sle=>λ_ _ n _=>V (.int .i64 (.lit (.ofNat n)),[])
 | .cr=>λ_ _ n _=>V (.int .i64 (.lit (.ofNat n)),[])
 |_=>λ_ _ _ _=>G
def arQ (E:Env) (h:Hf) (e:ll) (d s:SV):gN:=
 ay (E.ty.get e) λie=>aS (mL ie) (cj (Ry d) (oZ h ie.size s) λnd q=>E1 d h ie.size (aS (kN q.1 nd) q.1 nd) q.2) G
def Bm (E:Env) (h:Hf) (t:ll) (d s:SV):gN:=ay (E.ty.get t) λi=>ay (oM i.desc) λe=>arQ E h e d s
def Ia (d:UD):Bool:=match d with
 | .string=>M
 |_=>B
def Pn (d:UD):Bool:=match d with
 | .bool=>M
 |_=>B
def isLit:SI->Bool
 | .lit _=>M
def aqP (k:KH):UD->Bool
 | .int k'=>iD k k'
 |_=>B
def My (x:SV):UD->Bool:=match x with
 | .bool _=>λd=>Pn d
 | .int k e=>λd=>isLit e&&aqP k d
 | .str _=>λd=>Ia d
 |_=>λ_=>B
def aDV:SI->SI->A Bool
 | .lit a,.lit b=>V (J4 a b)
def sameKey (x:SV):SV->A Bool:=match x with
 | .bool a=>λy=>ayJ (.bool a) y
 | .int k a=>λy=>ay (intOf y) λp=>aS (iD k p.1) (aDV a p.2) G
 | .str a=>λy=>eqStr (.str a) y
 |_=>λ_=>G
def rX (k:SV):iC->Nat->A (A (Nat×SV×Nat))
 | [],_=>V G
 |e::es,i=>
  match sameKey k e.1 with
  |some M=>V (V (i,e.2.1,e.2.2))
  |some B=>rX k es (p8 i 1)
  |none=>G
def kZ:A SO->A (iC×Nat)
 |some (.map es c)=>V (es,c)
 |_=>G
def ahI (x:SV):Hf->A iC:=match x with
 | .mp i=>λh=>ay (kZ (h i)) λp=>V p.1
 | .pT=>λ_=>V []
 |_=>λ_=>G
def okV (ok:Bool) (v:SV) (b:Bool):SV:=aS ok (.dq [v,.bool b]) v
def M6 (ok:Bool) (z:gb):A (Nat×SV×Nat)->gb
 |some r=>V (okV ok r.2.1 M)
 |none=>ay z λz=>V (okV ok z B)
def G0 (d:UD):A (ll×ll):=match d with
 | .map k e=>V (k,e)
 |_=>G
def wL (E:Env) (h:Hf) (t:ll) (x k:SV) (ok:Bool):gb:=
 ay (E.ty.get t) λi=>ay (G0 i.desc) λq=>cj (E.ty.get q.1) (E.ty.get q.2) λik ie=>aS (My k ik.desc) (ay (ahI x h) λes=>ay (rX k es 0) λr=>M6 ok (jr ie ie.zero 0) r) G
def adW (es:iC) (c:Nat) (k v:SV):A (Nat×SV×Nat)->SO
 |some r=>.map (es.set r.1 (k,v,r.2.2)) c
 |none=>.map (es++ [(k,v,c)]) (p8 c 1)
def Co (E:Env) (h:Hf) (t:ll) (x k v:SV):A hJ:=
 ay (aBh x) λid=>ay (E.ty.get t) λi=>ay (G0 i.desc) λq=>cj (E.ty.get q.1) (kZ (h id)) λik p=>aS (My k ik.desc) (ay (rX k p.1 0) λr=>V [(id,V (adW p.1 p.2 k v r))]) G
def xb (n:Nat):SV:=.int .i64 (.lit (.ofNat n))
def aBo (x:SV):Hf->gb:=match x with
 | .mp i=>λh=>ay (kZ (h i)) λp=>V (xb p.1.length)
 | .pT=>λ_=>V (xb 0)
 |_=>λ_=>G
def Cy (d:UD):SV->Hf->gb:=match d with
 | .string=>λx _=>ay (strOf x) λs=>V (xb s.size)
 | .slice _=>λx _=>ay (Ry x) λn=>V (xb n)
 | .array n _=>λ_ _=>V (xb n)
 | .map _ _=>λx h=>aBo x h
 |_=>λ_ _=>G
def gj (tm:Tf):List C'->A bf
 | []=>V []
 |x::xs=>cj (dt tm x) (gj tm xs) λv l=>V (v::l)
def same (r:gb):gN:=ay r λv=>V (v,[])
def unit (r:A hJ):gN:=ay r λus=>V (.dq [],us)
def one (tm:Tf) (x:C') (f:SV->gN):gN:=ay (dt tm x) f
def two (tm:Tf) (x y:C') (f:SV->SV->gN):gN:=cj (dt tm x) (dt tm y) f
def aIX (E:Env) (new:Nat) (e:ll):gN:=ay (E.ty.get e) λi=>V (.ptr new 0,[(new,V (.cells e i.zero))])
def aqu (new:Nat) (e:ll) (v:SV):gN:=ay v.cells λcs=>V (.ptr new 0,[(new,V (.cells e cs))])
def qv (E:Env) (new:Nat) (t:ll) (len:Nat) (jC:List (Nat×bf)):gN:=
 ay (E.ty.get t) λi=>ay (oM i.desc) λe=>ay (E.ty.get e) λie=>
  aS (mL ie&&kN (A' len ie.size) 16777216) (ay (oF (uw ie.size) (rep ie.zero len) jC) λcs=>V (.sl new 0 len (.k len),[(new,V (.cells e cs))])) G
def agv:Fn->Bool
 | .func _=>M
 |_=>B
def aLl (tm:Tf) (f:Fn) (a c:List C'):gN:=aS (agv f) (cj (gj tm a) (gj tm c) λl m=>V (.fn f l m,[])) G
def agA (new:Nat):gN:=V (.mp new,[(new,V (.map [] 0))])
def aQJ (E:Env) (tm:Tf) (new:Nat) (t:ll):A C'->gN
 |none=>agA new
 |some x=>cj (E.ty.get t) (dt tm x) λi v=>cj (G0 i.desc) (oE v) λ_ _=>agA new
def HY (E:Env) (new:Nat) (t:ll) (l c:Nat):gN:=
 ay (E.ty.get t) λi=>ay (oM i.desc) λe=>ay (E.ty.get e) λie=>
  aS (kN l c&&(kN c 1000000&&mL ie)) (V (.sl new 0 l (.k c),[(new,V (.cells e (rep ie.zero c)))])) G
def Aj (d:UD):A (List FL):=match d with
 | .struct fs=>V fs
 |_=>G
def sj (E:Env) (s:ll) (f:Nat) (v:SV):gN:=
 cj (E.ty.get s) (xD v) λi p=>ay (Aj i.desc) λfs=>ay (fs[f]?) λfl=>ay (E.ty.get fl.type) λfi=>aS (kN 1 fi.size) (V (.ptr p.1 (p8 p.2 fl.off),[])) G
def DK (E:Env) (t:ll) (f:Nat) (v:SV):gN:=
 cj (E.ty.get t) (PF v) λi cs=>ay (Aj i.desc) λfs=>ay (fs[f]?) λfl=>ay (E.ty.get fl.type) λfi=>same (jr fi cs fl.off)
def agZ (d:UD):Env->Nat->SV->gN:=match d with
 | .string=>λ_ k v=>ay (strOf v) λs=>ay (s.data.toList[k]?) λb=>V (.int .u8 (.lit (.ofNat b.toNat)),[])
 | .array n e=>λE k v=>cj (PF v) (E.ty.get e) λcs ie=>aS (kN (J' k) n) (same (jr ie cs (A' k ie.size))) G
 |_=>λ_ _ _=>G
def AF (E:Env) (t:ll) (k:Nat) (v:SV):gN:=ay (E.ty.get t) λi=>agZ i.desc E k v
def awl (x:SV):Hf->A SO:=match x with
 | .mp i=>λh=>ay (kZ (h i)) λp=>V (.mapIter (V i) p.2 [] p.2)
 | .pT=>λ_=>V (.mapIter G 0 [] 0)
 |_=>λ_=>G
def HU (d:UD) (v:SV) (h:Hf):A SO:=
 match d with
 | .string=>ay (strOf v) λs=>V (.qo s 0)
 | .map _ _=>awl v h
 |_=>G
def AE (E:Env) (h:Hf) (new:Nat) (t:ll) (v:SV):gN:=ay (E.ty.get t) λi=>ay (HU i.desc v h) λo=>V (.ptr new 0,[(new,V o)])
def Pm:A SO->A (Z×Nat)
 |some (.qo s p)=>V (s,p)
 |_=>G
def alT (v:SV):cB:=ay (xD v) λq=>aS (iX q.2 0) (V q.1) G
def H4 (id:Nat) (p:Z×Nat):SV×hJ:=
 aS (kN (J' p.2) p.1.size) (.dq [.bool M,xb p.2,.int .i32 (.lit (V' p.1 p.2).1)],[(id,V (.qo p.1 (p8 p.2 (V' p.1 p.2).2)))]) (.dq [.bool B],[])
def Es (h:Hf) (CT:Bool) (v:SV):gN:=aS CT (ay (alT v) λid=>ay (Pm (h id)) λp=>V (H4 id p)) G
def Za (E:Env) (mx:Bool) (x y:SV):gb:=cj (intOf x) (intOf y) λa b=>ay (aS mx (FT E a.2 b.2) (FT E b.2 a.2)) λr=>V (.int a.1 (aS r b.2 a.2))
def Az:UD->Bool
 | .slice _=>M
 | .string=>M
 |_=>B
def xW {J:Type}:List J->A (J×J)
 | [a,b]=>V (a,b)
 |_=>G
def nK (E:Env) (h:Hf) (new:Nat) (b:Builtin) (aa:bf) (ts:List ll):gN:=
 match b with
 | .len=>cj aa.head? ts.head? λx t=>aS (iX aa.length 1) (ay (E.ty.get t) λi=>same (Cy i.desc x h)) G
 | .append=>cj (xW aa) (xW ts) λp q=>ay (E.ty.get q.2) λi=>aS (Az i.desc) (mP E h new q.1 p.1 p.2) G
 | .copy=>cj (xW aa) ts.head? λp t=>Bm E h t p.1 p.2
 | .min=>ay (xW aa) λp=>same (Za E B p.1 p.2)
 | .max=>ay (xW aa) λp=>same (Za E M p.1 p.2)
 |_=>G
def pI (E:Env) (tm:Tf) (h:Hf) (new:Nat) (c:Call):gN:=
 match c.callee with
 | .builtin b=>ay (gj tm c.args.toList) λaa=>nK E h new b aa c.argTypes.toList
 |_=>G
def opD (o:Op):Env->Tf->Hf->Nat->gN:=match o with
 | .move x=>λ_ tm _ _=>one tm x λv=>V (v,[])
 | .assign x=>λ_ tm _ _=>one tm x λv=>V (v,[])
 | .pick c x y=>λ_ tm _ _=>ay (dt tm c) λv=>ay (uH v) λb=>one tm (aS b x y) λv=>V (v,[])
 | .alloc e=>λE _ _ new=>aIX E new e
 | .box e x=>λ_ tm _ new=>one tm x (aqu new e)
 | .build t parts=>λE tm _ _=>ay (mI tm parts.toList) λjC=>same (Nr E t jC)
 | .buildSlice t len parts=>λE tm _ new=>ay (mI tm parts.toList) λjC=>qv E new t len jC
 | .insert t m k x=>λE tm h _=>two tm m k λa b=>one tm x λc=>unit (Co E h t a b c)
 | .load t x=>λE tm h _=>one tm x λv=>same (rR E h t v)
 | .store t x y=>λE tm h _=>two tm x y λa v=>unit (xi E h t v a)
 | .nilCheck x=>λ_ tm _ _=>one tm x λv=>same (abA v)
 | .binOp op t x y _=>λE tm _ _=>two tm x y λv u=>same (R0 E op t x y v u)
 | .unOp op _ x=>λ_ tm _ _=>one tm x λv=>same (unA op v)
 | .convert s d x=>λE tm _ _=>one tm x λv=>same (Ug E s d v)
 | .makeFunc f a c=>λ_ tm _ _=>aLl tm f a.toList c.toList
 | .makeMap t r=>λE tm _ new=>aQJ E tm new t r
 | .makeSlice t l c=>λE tm _ new=>two tm l c λu v=>cj (oE u) (oE v) (HY E new t)
 | .slice t x lo hi mx=>λE tm _ _=>one tm x λv=>ug (km tm lo) (km tm hi) (km tm mx) λl u m=>same (y6 E t v l u m)
 | .fieldAddr s x f=>λE tm _ _=>one tm x (sj E s f)
 | .field t x f=>λE tm _ _=>one tm x (DK E t f)
 | .indexAddr t x ix=>λE tm _ _=>two tm x ix λv u=>ay (oE u) λk=>same (rS E t v k)
 | .index t x ix=>λE tm _ _=>two tm x ix λv u=>ay (oE u) λk=>AF E t k v
 | .lookup t x k ok=>λE tm h _=>two tm x k λa b=>same (wL E h t a b ok)
 | .mapUpdate t m k x=>λE tm h _=>two tm m k λa b=>one tm x λc=>unit (Co E h t a b c)
 | .range t x=>λE tm h new=>one tm x (AE E h new t)
 | .next it CT=>λ_ tm h _=>one tm it (Es h CT)
 | .extract x i=>λ_ tm _ _=>one tm x λv=>ay (SL v) λvs=>same (vs[i]?)
 | .call c=>λE tm h new=>pI E tm h new c
 |_=>λ_ _ _ _=>G
def ux (E:Env) (op:Op) (tm:Tf) (h:Hf) (new:Nat):gN:=opD op E tm h new
inductive Ex where
 |normal|exit (id:Nat)|ret|z6 (v:SV)
 deriving Inhabited
def setArgs (vs:bf):Nat->LJ->LJ:= @List.rec SV (λ_=>Nat->LJ->LJ) (λ_ t=>t) (λv _ ih i t=>ih (p8 i 1) (t.set i (V v))) vs
def nA (nt:Nat) (d:cB):Bool:= @Option.rec Nat (λ_=>Bool) M (λd=>kN (J' d) nt) d
def aQB (x:SV):Bool->A Bool:=match x with
 | .bool b=>λwant=>V (b==want)
 | .dq _=>λ_=>V B
 |_=>λ_=>G
def apB (want:Bool) (x:SV):A Bool:=aQB x want
def Mp (l:nS):Nat->cB:= @List.rec N' (λ_=>Nat->cB) (λ_=>G) (λo _ ih j=> @Nat.rec (λ_=>cB) o.dst (λk _=>ih k) j) l
def yi (ops:nS) (tm:Tf) (j:Nat) (want:Bool):A Bool:= @Option.rec Nat (λ_=>A Bool) (V B) (λt=>ay (tm t) (apB want)) (Mp ops j)
def kq (ops:nS) (o:N') (tm:Tf):A Bool:= @Option.rec (Nat×Bool) (λ_=>A Bool) (V M) (λg=>yi ops tm g.1 g.2) o.guard
def Tb (E:Env) (tm:Tf) (h:Hf):ab0->gb
 | .tmp t=>tm t
 | .cell t ty=>ay (tm t) (rR E h ty)
def AA (E:Env) (tm:Tf) (h:Hf):List ab0->A bf
 | []=>V []
 |r::rs=>cj (Tb E tm h r) (AA E tm h rs) λv l=>V (v::l)
def oneOf:bf->SV
 | [v]=>v
 |vs=>.dq vs
def DQ:List UInt8->List UInt8->Bool
 | [],[]=>B
 | [],_::_=>M
 |_::_,[]=>B
 |a::l,b::m=>aS (kN (J' a.toNat) b.toNat) M (aS (iX a.toNat b.toNat) (DQ l m) B)
def Np (a b:Z):Int:=aS (DQ a.data.toList b.data.toList) (-1) (aS (uG a.data.toList b.data.toList) 0 1)
def leave (id:Nat) (e:Ex):Ex:= @Ex.rec (λ_=>Ex) .normal (λid'=>aS (iX id' id) .normal (.exit id')) .ret (λv=>.z6 v) e
def aro (E:Env):SV->Bool
 | .fn (.func k) _ _=> @Option.rec Func (λ_=>Bool) B (λfn=>fn.body.isSome) (E.fn.get k)
 |_=>B
def AU (tm:Tf):Callee->gb
 | .value x=>dt tm x
 |_=>G
def JX (x:Nat):bP->Bool
 | []=>B
 |y::l=>aS (iX x y) M (JX x l)
def qR (seen:bP) (es:iC):iC:=es.filter λe=> !JX e.2.2 seen
def iterM (since:Nat) (seen:bP) (last c:Nat) (es:iC):Bool:=
 es.all (λe=>kN (J' e.2.2) since)&&kN since last
def Pj:bP->cB
 | []=>G
 | [a]=>V a
 |_::l=>Pj l
def Ga (b:Nat):iC->gb
 | []=>G
 |e::es=>aS (iX e.2.2 b) (V (.dq [e.1,e.2.1])) (Ga b es)
def Nb (h:Hf) (id:Nat):gb:=
 match h id with
 |some (.mapIter (V m) since seen last)=>
  (match h m with
  |some (.map es c)=>aS (iX c last) (ay (Pj seen) λb=>Ga b es) G
  |_=>G)
 |_=>G
def force {g7:Type} (m:Nat) (f:Nat->g7):g7:=Nat.rec (f 0) (λk _=>f (k+1)) m
def Ha (o:N'):bP:=(o.after.toList.filter (Region.binds .any ·)).map (·.on)
def auQ (W f8:Nat):bP->Nat
 | []=>0
 |i::ds=>Nat.lor (auQ W f8 ds) (Nat.lor (Nat.shiftLeft 1 i) (aa1 (Nat.shiftRight f8 (A' i W)) (Nat.pow 2 W)))
def bitB (m i:Nat):Bool:=iX (Nat.land (Nat.shiftRight m i) 1) 1
def mW (x:Nat):bP->Bool
 | []=>B
 |y::l=>aS (iX x y) M (mW x l)
def wN:bP->bP->Bool
 | [],_=>M
 |x::l,m=>aS (mW x m) B (wN l m)
def lH:gb->bP
 |some (.ptr i _)=> [i]
 |some (.sl i _ _ _)=> [i]
 |some (.mp i)=> [i]
 |_=> []
def qS (tm:Tf):List C'->bP
 | []=> []
 |x::xs=>lH (dt tm x)++qS tm xs
def idM:gb->bP
 |some (.mp i)=> [i]
 |_=> []
def J7 (tm:Tf):List C'->bP
 | []=> []
 |x::xs=>idM (dt tm x)++J7 tm xs
def vT (c:Call):Bool:=
 match c.callee with
 | .builtin .len=>M
 |_=>B
def O6 (op:Op) (tm:Tf):bP:=
 match op with
 | .load _ x=>qS tm [x]
 | .store _ x y=>qS tm [x,y]
 | .lookup _ x k _=>qS tm [x,k]
 | .mapUpdate _ m k x=>qS tm [m,k,x]
 | .insert _ m k x=>qS tm [m,k,x]
 | .next it _=>qS tm [it]
 | .range _ x=>qS tm [x]
 | .call c=>aS (vT c) (J7 tm c.args.toList) (qS tm c.args.toList)
 |_=> []
def aea:List C'->bP
 | []=> []
 |x::xs=>(match x with| .tmp t=>t::aea xs|_=>aea xs)
def looks (all:nS) (o:N'):bP:=aea o.op.operands.toList++(match o.guard with|some g=>(Mp all g.1).toList|none=> [])
def S7 (all:nS) (p r:N'):Bool:=wN p.dst.toList (looks all r)&&(wN r.dst.toList (looks all p)&&wN p.dst.toList r.dst.toList)
def Rf (all:nS) (m:Nat) (r:N'):Nat->nS->Bool
 |_,[]=>M
 |k,p::ps=>aS (bitB m k) (Rf all m r (X' k 1) ps) (aS (S7 all p r) (Rf all m r (X' k 1) ps) B)
def amN (W:Nat) (all:nS):nS->Nat->Nat->nS->Bool
 | [],_,_,_=>M
 |o::l,i,f8,prev=>force (aa1 (auQ W f8 (Ha o)) (Nat.pow 2 W)) λm=>aS (Rf all m o (X' i 1) prev) (force (Nat.lor f8 (Nat.shiftLeft m (A' i W))) λM'=>amN W all l (p8 i 1) M' (o::prev)) B
def codeOk (c:Mn):Bool:= @Code.rec (λ_=>Bool) M (λ_ ops draw=>aS draw (amN ops.size ops.toList ops.toList 0 0 []) M) (λ_ _ a b=>a&&b) (λ_ _ _ a b=>a&&b) (λ_ _ a=>a) (λ_ a=>a) (λ_ _ _ _ a b=>a&&b) (λ_=>M) (λ_ a=>a) (λ_=>M) (λ_=>M) M (λ_=>M) c
def arp (fn:Func):Bool:= @Option.rec Mn (λ_=>Bool) M codeOk fn.body
def aGH (e:Ex):A gb:= @Ex.rec (λ_=>A gb) (V G) (λ_=>G) (V G) (λv=>V (V v)) e
def MH (s:String):Bool:=s== "runtime.NumGoroutine"
def TP (e:Ex):Bool:= @Ex.rec (λ_=>Bool) M (λ_=>B) M (λ_=>B) e
def tU (e:Ex):Bool:= @Ex.rec (λ_=>Bool) M (λ_=>B) B (λ_=>B) e
def CE (f9 g6 C:Nat) (svs:bf):bf:=svs.take f9++((svs.drop g6).take (X' C g6)++(P' (X' g6 f9) .undef++svs.drop C))
def CB {J:Type} (xs:List J) (k:Nat) (ys:List J):List J:=xs.take k++(ys++xs.drop k)
def arY (off len sz:Nat):Cp->Bool
 | .k m=>kN (p8 off (A' m sz)) len
 | .u _=>M
def arL (sz:Nat) (f:Hf):bf->gN
 | [.sl id off n c,.int .i64 a,.int .i64 b]=>ug (Y9 a) (Y9 b) (mM (f id)) λi j p=>
   aS (kN (J' i) j&&(kN j n&&kN (p8 off (A' n sz)) p.2.length)) (V (.sl id off (X' n (X' j i)) c,[(id,V (.cells p.1 (CE (p8 off (A' i sz)) (p8 off (A' j sz)) (p8 off (A' n sz)) p.2)))])) G
 |_=>G
def aqQ (e:ll) (sz:Nat) (f:Hf) (new:Nat):bf->gN
 | [.sl id off n c,.int .i64 a,.sl FY xQ q c2]=>ug (Y9 a) (mM (f id)) (mM (f FY)) λi p p2=>
   aS (kN i n&&(kN 1 q&&(kN n 1000000&&(kN q 1000000&&(!iX id FY&&(iX p.1 e&&(kN (p8 off (A' n sz)) p.2.length&&(kN (p8 xQ (A' q sz)) p2.2.length&&arY off p.2.length sz c))))))))
    (V (.sl new 0 (p8 n q) (.u e),[(id,G),(new,V (.cells e (CB ((p.2.drop off).take (A' n sz)) (A' i sz) ((p2.2.drop xQ).take (A' q sz)))))])) G
 |_=>G
def CA (x:Int):List Int->List Int
 | []=> [x]
 |y::ys=>if x<=y then x::y::ys else y::CA x ys
def fo:List Int->List Int
 | []=> []
 |x::xs=>CA x (fo xs)
def l8:List Int->List Int
 | []=> []
 |x::xs=>match xs with
  | []=> [x]
  |y::_=>if x=y then l8 xs else x::l8 xs
def ddZ (xs:List Int):List Int:=l8 xs++P' (xs.length-(l8 xs).length) 0
def Dc (b:Bool) (xs:List Int):List Int:=aS b (fo xs) (ddZ xs)
def Mz:SV->A Int
 | .int .i64 (.lit x)=>V x
 |_=>G
def J3 (l:bf):A (List Int):= @List.rec SV (λ_=>A (List Int)) (V []) (λv _ ih=>cj (Mz v) ih λx r=>V (x::r)) l
def fE (l:List Int):bf:=l.map λx=>.int .i64 (.lit x)
def abI (b:Bool) (f:Hf):bf->gN
 | [.cr]=>V (aS b (.dq []) .cr,[])
 | [.sl id off n c]=>aS (iX n 0) (V (aS b (.dq []) (.sl id off 0 c),[])) (ay (mM (f id)) λp=>ay (J3 ((p.2.drop off).take n)) λxs=>
   aS (kN 1 n&&(kN (p8 off n) p.2.length&&kN n 4294967295)) (V (aS b (.dq []) (.sl id off (l8 xs).length c),[(id,V (.cells p.1 (p.2.take off++(fE (Dc b xs)++p.2.drop (p8 off n)))))])) G)
 |_=>G
def xE (E:Env) (c:Nat) (f:Hf) (new:Nat) (aa:bf):gN:=
 aS (kN 1048576 c) (abI (iX c 1048576) f aa) (ay (E.ty.get (O' c 2)) λie=>aS (iX (aa1 c 2) 0) (arL ie.size f aa) (aqQ (O' c 2) ie.size f new aa))
def JS (k:Nat):List (Nat×Nat)->cB
 | []=>G
 |p::l=>aS (iX p.1 k) (V p.2) (JS k l)
end Go.bL
namespace Go.bL
open Go.RowKit
variable {J γ g7:Type} {x ox:C'} {r z v u u1:BL} {a:Act} {c nt o n i off k l new f8:Nat} {w' w0:World} {e t src tx ty:ll} {p:Z×Nat} {s:Z} {q fz:Nat×Nat} {neg:Bool} {ob:Obj} {parts:Array (Nat×BL)} {it:TypeInfo} {kl kk:KH} {lo:A C'} {base:A Addr}
section
variable {δ:Type} {w:World}
def cI (b:Bool) (x y:J):aS b x y=if b=M then x else y:=by cases b<;>rfl
def aZ {b:Bool} {x:A J} {r:J} (h:aS b x G=V r):b=M/\x=V r:=by
 cases b
 ·simp[aS] at h
 ·exact ⟨rfl,h⟩
def aq {x:A J} {f:J->A γ} {r:γ} (h:ay x f=V r):∃a,x=V a/\f a=V r:=by
 cases x with
 |none=>cases h
 |some a=>exact ⟨a,rfl,h⟩
def bT {x:A J} {y:A g7} {f:J->g7->A γ} {r:γ} (h:cj x y f=V r):∃a b,x=V a/\y=V b/\f a b=V r:=by
 cases x with
 |none=>cases h
 |some a=>
  cases y with
  |none=>cases h
  |some b=>exact ⟨a,b,rfl,rfl,h⟩
def Dj {x:A J} {y:A g7} {z:A δ} {f:J->g7->δ->A γ} {r:γ} (h:ug x y z f=V r):∃a b c,x=V a/\y=V b/\z=V c/\f a b c=V r:=by
 let ⟨a,ha,h⟩:=aq h;let ⟨b,c,hb,hc,h⟩:=bT h;exact ⟨a,b,c,ha,hb,hc,h⟩
def beq_iff (a b:Nat):iX a b=M↔a=b:=⟨Nat.eq_of_beq_eq_true,λh=>by subst h;exact Nat.beq_refl a⟩
def beq_eq (a b:Nat):iX a b=U (a=b):=by
 rw[oa,beq_iff];simp
def bN (a b:Nat):kN a b=M↔a<=b:=by rw[Nat.ble_eq]
def ble_eq (a b:Nat):kN a b=U (a<=b):=by
 rw[oa,bN];simp
def Tr.get_nil (i:Nat):(Tr.nil:Tr J).get i=G:=rfl
def Tr.ER (l r:Tr J) (v:A J) (i:Nat):(Tr.node l v r).get i=if i=0 then v else if i % 2=1 then l.get (i / 2) else r.get (i / 2-1):=by
 show aS (iX i 0) v (aS (iX (aa1 i 2) 1) (l.get (O' i 2)) (r.get (X' (O' i 2) 1)))=_;rw[cI,cI,beq_eq,beq_eq];simp only[j2];rfl
def Tr.left {J:Type}:Tr J->Tr J
 | .nil=>.nil
 | .node l _ _=>l
def Tr.right {J:Type}:Tr J->Tr J
 | .nil=>.nil
 | .node _ _ r=>r
def Tr.val {J:Type}:Tr J->A J
 | .nil=>G
 | .node _ v _=>v
def Tr.M5 (t:Tr J) (i:Nat):t.get i=if i=0 then t.val else if i % 2=1 then t.left.get (i / 2) else t.right.get (i / 2-1):=by
 cases t with
 |nil=>simp[Tr.val,Tr.left,Tr.right,Tr.get_nil]
 |node l v r=>rw[Tr.ER];rfl
def Tr.avT (n:Nat) (t:Tr J) (i:Nat) (x:A J):Tr.Mh (n+1) t i x=
  if i=0 then .node t.left x t.right else if i % 2=1 then .node (Tr.Mh n t.left (i / 2) x) t.val t.right else .node t.left t.val (Tr.Mh n t.right (i / 2-1) x):=by
 have e:Tr.Mh (n+1) t i x=aS (iX i 0) (Tr.node t.left x t.right) (aS (iX (aa1 i 2) 1) (.node (Tr.Mh n t.left (O' i 2) x) t.val t.right) (.node t.left t.val (Tr.Mh n t.right (X' (O' i 2) 1) x))):=by
  cases t<;>rfl
 rw[e,cI,cI,beq_eq,beq_eq];simp only[j2];rfl
def Tr.RL {J:Type}:∀(n:Nat) (t:Tr J) (i j:Nat) (x:A J),i<n->(Tr.Mh n t i x).get j=if j=i then x else t.get j
 |0,_,_,_,_,h=>by omega
 |n+1,t,i,j,x,h=>by
  rw[Tr.avT];by_cases h0:i=0
  ·subst h0;rw[aF rfl,Tr.ER];by_cases hj:j=0
   ·simp[hj]
   ·rw[aC hj,aC hj,Tr.M5 t j,aC hj]
  ·rw[aC h0];by_cases h1:i % 2=1
   ·rw[aF h1,Tr.ER,Tr.M5 t j];by_cases hj:j=0
    ·subst hj;rw[aF rfl,aF rfl,aC (by omega)]
    ·rw[aC hj,aC hj];by_cases MT:j % 2=1
     ·rw[aF MT,aF MT,Tr.RL n _ _ _ _ (by omega)]
      by_cases e:j=i
      ·rw[aF e,aF (by omega)]
      ·rw[aC e,aC (by omega)]
     ·rw[aC MT,aC MT,aC (by omega)]
   ·rw[aC h1,Tr.ER,Tr.M5 t j];by_cases hj:j=0
    ·subst hj;rw[aF rfl,aF rfl,aC (by omega)]
    ·rw[aC hj,aC hj];by_cases MT:j % 2=1
     ·rw[aF MT,aF MT,aC (by omega)]
     ·rw[aC MT,aC MT,Tr.RL n _ _ _ _ (by omega)]
      by_cases e:j=i
      ·rw[aF e,aF (by omega)]
      ·rw[aC e,aC (by omega)]
def Tr.anS (t:Tr J) (i j:Nat) (x:A J):(t.set i x).get j=if j=i then x else t.get j:=Tr.RL (i+1) t i j x (by omega)
structure Gh where
 η:Nat->Int
 sz:ll->Nat
 O:Nat->Option (Nat×Nat)
 lim:Nat->Nat
 et:Nat->ll
 wb:Nat->Option Obj
structure Gh.le (g g':Gh):Prop where
 η:g'.η=g.η
 sz:g'.sz=g.sz
 O:∀id p,g.O id=V p->g'.O id=V p
 lim:∀id p,g.O id=V p->g'.lim id=g.lim id
 et:∀id p,g.O id=V p->g'.et id=g.et id
 wb:g'.wb=g.wb
def Gh.le.refl (g:Gh):g.le g:=⟨rfl,rfl,λ_ _ h=>h,λ_ _ _=>rfl,λ_ _ _=>rfl,rfl⟩
def Gh.le.trans {a b c:Gh} (h:a.le b) (k:b.le c):a.le c:=
 ⟨k.η.trans h.η,k.sz.trans h.sz,λid p q=>k.O id p (h.O id p q),λid p q=>(k.lim id p (h.O id p q)).trans (h.lim id p q),λid p q=>(k.et id p (h.O id p q)).trans (h.et id p q),k.wb.trans h.wb⟩
mutual
inductive VR (g:Gh):BL->SV->Prop
 |bool (b:_):VR g (.bool b) (.bool b)
 |int (k e:_) {n:Int} (h:n=e.ev g.η):VR g (.int k n) (.int k e)
 |str (s:_):VR g (.string s) (.str s)
 |ptr {id off b o:_} (h:g.O id=V (b,o)):VR g (.pointer (V ⟨b,o+off,G⟩)) (.ptr id off)
 |vN:VR g (.pointer G) .vN
 |sl {id off n b o c:_} {cap:Cp} (h:g.O id=V (b,o)) (hn:n<=c) (hc:∀m,cap= .k m->c=m) (hl:∀e,cap= .u e->g.et id=e/\off+c*g.sz e<=g.lim id):VR g (.slice (V ⟨b,o+off,G⟩) n c) (.sl id off n cap)
 |sle {a c:_}:VR g (.slice a 0 c) .sle
 |cr:VR g (.slice G 0 0) .cr
 |mp {id b o:_} (h:g.O id=V (b,o)):VR g (.map (V b)) (.mp id)
 |pT:VR g (.map G) .pT
 |fn {f:FuncId} {first kz:jP} {fs cs:bf} (h1:nD g first.toList fs) (h2:nD g kz.toList cs):VR g (.func (.func f) first kz) (.fn (.func f) fs cs)
 |vf:VR g .nilFunc .vf
 |agg {vs:jP} {cs:_} (h:iy g vs.toList cs):VR g (.agg vs) (.agg cs)
 |dq {vs:jP} {cs:_} (h:nD g vs.toList cs):VR g (.tuple vs) (.dq cs)
 |undef (v:_):VR g v .undef
inductive nD (g:Gh):fM->bf->Prop
 |nil:nD g [] []
 |cons {v x vs xs:_} (h:VR g v x) (ht:nD g vs xs):nD g (v::vs) (x::xs)
inductive iy (g:Gh):fM->bf->Prop
 |nil:iy g [] []
 |cons {v x vs xs:_} (h1:v.oneCell'=M) (h:VR g v x) (ht:iy g vs xs):iy g (v::vs) (x::xs)
end
mutual
def VR.mono {g g':Gh} (hle:g.le g'):∀{v x},VR g v x->VR g' v x
 |_,_,.bool b=>.bool b
 |_,_,.int k e h=>.int k e (by rw[hle.η];exact h)
 |_,_,.str s=>.str s
 |_,_,.ptr h=>.ptr (hle.O _ _ h)
 |_,_,.vN=>.vN
 |_,_,.sl h hn hc hl=>.sl (hle.O _ _ h) hn hc (λe he=>by rw[hle.sz,hle.et _ _ h,hle.lim _ _ h];exact hl e he)
 |_,_,.sle=>.sle
 |_,_,.cr=>.cr
 |_,_,.mp h=>.mp (hle.O _ _ h)
 |_,_,.pT=>.pT
 |_,_,.fn h1 h2=>.fn (h1.mono hle) (h2.mono hle)
 |_,_,.vf=>.vf
 |_,_,.agg h=>.agg (h.mono hle)
 |_,_,.dq h=>.dq (h.mono hle)
 |_,_,.undef v=>.undef v
def nD.mono {g g':Gh} (hle:g.le g'):∀{v x},nD g v x->nD g' v x
 |_,_,.nil=>.nil
 |_,_,.cons h ht=>.cons (h.mono hle) (ht.mono hle)
def iy.mono {g g':Gh} (hle:g.le g'):∀{v x},iy g v x->iy g' v x
 |_,_,.nil=>.nil
 |_,_,.cons h1 h ht=>.cons h1 (h.mono hle) (ht.mono hle)
end
variable {g:Gh} {P:E'}
def iy.length:∀{vs:fM} {cs:bf},iy g vs cs->vs.length=cs.length
 |_,_,.nil=>rfl
 |_,_,.cons _ _ ht=>by simp[ht.length]
def nD.length:∀{vs:fM} {cs:bf},nD g vs cs->vs.length=cs.length
 |_,_,.nil=>rfl
 |_,_,.cons _ ht=>by simp[ht.length]
def iy.get:∀{vs:fM} {cs:bf},iy g vs cs->∀{j:Nat} {x:SV},cs[j]? =V x->∃v,vs[j]? =V v/\v.oneCell'=M/\VR g v x
 |_,_,.nil,_,_,h=>by simp at h
 |_,_,.cons h1 hd ht,j,x,h=>by
  cases j with
  |zero=>simp at h;subst h;exact ⟨_,rfl,h1,hd⟩
  |succ j=>simp at h;let ⟨v,a,b,c⟩:=ht.get h;exact ⟨v,by simpa using a,b,c⟩
def nD.get:∀{vs:fM} {cs:bf},nD g vs cs->∀{j:Nat} {x:SV},cs[j]? =V x->∃v,vs[j]? =V v/\VR g v x
 |_,_,.nil,_,_,h=>by simp at h
 |_,_,.cons hd ht,j,x,h=>by
  cases j with
  |zero=>simp at h;subst h;exact ⟨_,rfl,hd⟩
  |succ j=>simp at h;let ⟨v,a,c⟩:=ht.get h;exact ⟨v,by simpa using a,c⟩
def iy.append:∀{vs us:fM} {cs ds:bf},iy g vs cs->iy g us ds->iy g (vs++us) (cs++ds)
 |_,_,_,_,.nil,k=>k
 |_,_,_,_,.cons h1 hd ht,k=>.cons h1 hd (ht.append k)
def nD.append:∀{vs us:fM} {cs ds:bf},nD g vs cs->nD g us ds->nD g (vs++us) (cs++ds)
 |_,_,_,_,.nil,k=>k
 |_,_,_,_,.cons hd ht,k=>.cons hd (ht.append k)
def iy.drop:∀{vs:fM} {cs:bf} (n:Nat),iy g vs cs->iy g (vs.drop n) (cs.drop n)
 |_,_,0,h=>h
 |_,_,n+1,.nil=>by simpa using .nil
 |_,_,n+1,.cons _ _ ht=>by simpa using ht.drop n
def iy.take:∀{vs:fM} {cs:bf} (n:Nat),iy g vs cs->iy g (vs.take n) (cs.take n)
 |_,_,0,_=>by simpa using .nil
 |_,_,n+1,.nil=>by simpa using .nil
 |_,_,n+1,.cons h1 hd ht=>by simpa using .cons h1 hd (ht.take n)
def iy.one:∀{vs:fM} {cs:bf},iy g vs cs->∀v∈vs,v.oneCell'=M
 |_,_,.nil,v,hv=>by simp at hv
 |_,_,.cons h1 _ ht,v,hv=>by
  rcases da.1 hv with rfl|hv
  ·exact h1
  ·exact ht.one v hv
def iy.mk:∀{vs:fM} {cs:bf},vs.length=cs.length->(∀(j:Nat) (v:BL) (x:SV),vs[j]? =V v->cs[j]? =V x->v.oneCell'=M/\VR g v x)->iy g vs cs
 | [],[],_,_=>.nil
 |v::vs,x::xs,hl,h=>by
  let ⟨a,b⟩:=h 0 v x rfl rfl;exact .cons a b (iy.mk (by simpa using hl) λj v x hv hx=>h (j+1) v x (by simpa using hv) (by simpa using hx))
 | [],_::_,hl,_=>by simp at hl
 |_::_,[],hl,_=>by simp at hl
structure Cells (g:Gh) (w:World) (id b o:Nat) (e:ll) (cs:bf):Prop where
 mem:∃cur:jP,w.heap[b]? =V (.cells cur e (0,0))/\o+g.lim id<=cur.size/\∃vs,iy g vs cs/\∀j v,vs[j]? =V v->cur[o+j]? =V v
 et:g.et id=e
def atB (g:Gh) (m:Z') (x:SV×SV×Nat):Prop:=VR g m.key x.1/\VR g m.val x.2.1/\m.born=x.2.2
inductive kK (g:Gh):List Z'->iC->Prop
 |nil:kK g [] []
 |cons {m x ms xs:_} (h:atB g m x) (ht:kK g ms xs):kK g (m::ms) (x::xs)
def kK.mono {g g':Gh} (hle:g.le g'):∀{ms:List Z'} {xs:iC},kK g ms xs->kK g' ms xs
 |_,_,.nil=>.nil
 |_,_,.cons h ht=>.cons ⟨h.1.mono hle,h.2.1.mono hle,h.2.2⟩ (ht.mono hle)
structure FR (g:Gh) (nt:Nat) (tm:Tf) (tmps:jP):Prop where
 sz:tmps.size=nt
 tm:∀t x,tm t=V x->VR g (tmps.getD t undef) x
def FR.mono {g g':Gh} (hle:g.le g') {tm:Tf} {tmps:jP} (h:FR g nt tm tmps):FR g' nt tm tmps:=⟨h.sz,λt x hx=>(h.tm t x hx).mono hle⟩
def OR (g:Gh) (w:World) (id b o:Nat):SO->Prop
 | .cells e cs=>Cells g w id b o e cs
 | .map es c=>∃ms,w.heap[b]? =V (.map ms c)/\kK g ms.toList es
 | .qo s pos=>o=0/\w.heap[b]? =V (.stringIter s pos)
 | .mapIter mp since seen last=>o=0/\∃(bm:cB) (sa:Array Nat),w.heap[b]? =V (.mapIter bm since sa last)/\sa.toList=seen/\(match mp with|none=>bm=G|some m=>∃x y,bm=V x/\g.O m=V (x,y))
 | .dfr=>w.heap[b]? =V (.deferred (V []))
 | .ro cs=>∃(cur:jP) (e:ll) (fz:Nat×Nat),w.heap[b]? =V (.cells cur e fz)/\g.wb b=V (.cells cur e fz)/\∀j x,cs[j]? =V x->∃v,cur[o+j]? =V v/\(Ly x=B->v.oneCell'=M/\VR g v x)
def Cells.mono {g g':Gh} (hle:g.le g') {id b:Nat} {cs:bf} (hρ:g.O id=V (b,o)) (h:Cells g w id b o e cs) (hw:w'.heap[b]? =w.heap[b]?):Cells g' w' id b o e cs:=by
 let ⟨⟨cur,h1,h0,vs,h2,h3⟩,h4⟩:=h;exact ⟨⟨cur,hw.trans h1,by rw[hle.lim _ _ hρ];exact h0,vs,h2.mono hle,h3⟩,(hle.et _ _ hρ).trans h4⟩
def OR.mono {g g':Gh} (hle:g.le g') {id b:Nat} {x:SO} (hρ:g.O id=V (b,o)) (h:OR g w id b o x) (hw:w'.heap[b]? =w.heap[b]?):OR g' w' id b o x:=by
 cases x with
 |cells e cs=>exact Cells.mono hle hρ h hw
 |map es c=>let ⟨ms,h1,h2⟩:=h;exact ⟨ms,hw.trans h1,h2.mono hle⟩
 |qo s pos=>exact ⟨h.1,hw.trans h.2⟩
 |mapIter mp since seen last=>
  let ⟨h0,bm,sa,h1,h2,h3⟩:=h;refine ⟨h0,bm,sa,hw.trans h1,h2,?_⟩;cases mp with
  |none=>exact h3
  |some m=>let ⟨x,y,e1,e2⟩:=h3;exact ⟨x,y,e1,hle.O _ _ e2⟩
 |dfr=>exact hw.trans h
 |ro cs=>
  let ⟨cur,e,fz,h1,h0,h2⟩:=h;refine ⟨cur,e,fz,hw.trans h1,(congrFun hle.wb b).trans h0,λj x hx=> ?_⟩
  let ⟨v,a,b⟩:=h2 j x hx;exact ⟨v,a,λhu=>⟨(b hu).1,(b hu).2.mono hle⟩⟩
structure HR (g:Gh) (hp:Hf) (w:World):Prop where
 ob:∀id o,hp id=V o->∃b c,g.O id=V (b,c)/\b<w.heap.size/\OR g w id b c o
 inj:∀i j x y b c d,hp i=V x->hp j=V y->g.O i=V (b,c)->g.O j=V (b,d)->i=j
def asW (g:Gh) (hp:Hf) (b:Nat):Prop:=∃id o c,hp id=V o/\g.O id=V (b,c)
structure Fr (g:Gh) (hp:Hf) (w:World) (g':Gh) (BW:Hf) (w':World):Prop where
 os:w'.os=w.os
 tape:w'.tape=w.tape
 output:w'.output=w.output
 size:w.heap.size<=w'.heap.size
 le:g.le g'
 old:∀b,b<w.heap.size->¬asW g hp b->w'.heap[b]? =w.heap[b]?
 own:∀b,b<w.heap.size->asW g' BW b->asW g hp b
def Fr.refl (g:Gh) (hp:Hf) (w:World):Fr g hp w g hp w:=⟨rfl,rfl,rfl,cS _,.refl _,λ_ _ _=>rfl,λ_ _ h=>h⟩
def Fr.trans {g g1 g2:Gh} {h h1 h2:Hf} {w1 w2:World} (a:Fr g h w g1 h1 w1) (b:Fr g1 h1 w1 g2 h2 w2):Fr g h w g2 h2 w2:=
 ⟨b.os.trans a.os,b.tape.trans a.tape,b.output.trans a.output,kP a.size b.size,a.le.trans b.le,
  λk hk hn=>(b.old k (Bv hk a.size) (λhm=>hn (a.own k hk hm))).trans (a.old k hk hn),
  λk hk hm=>a.own k hk (b.own k (Bv hk a.size) hm)⟩
end
def FN {e:SI} (h:Y9 e=V n):e= .lit (.ofNat n):=by
 unfold Y9 at h;split at h
 ·simp at h;subst h;rfl
 ·simp at h
def wK {x:SV} (h:oE x=V n):∃k,x= .int k (.lit (.ofNat n)):=by
 cases x<;>first|(exact ⟨_,by rw[FN h]⟩)|cases h
def Bn {x:SV} {b:Bool} (h:uH x=V b):x= .bool b:=by cases x<;>cases h<;>rfl
def tV {x:SV} {p:KH×SI} (h:intOf x=V p):x= .int p.1 p.2:=by cases x<;>cases h<;>rfl
def rJ {x:SV} (h:strOf x=V s):x= .str s:=by cases x<;>cases h<;>rfl
def rN {x:SV} (h:xD x=V q):x= .ptr q.1 q.2:=by cases x<;>cases h<;>rfl
def Dl {x:SV} {cs:bf} (h:PF x=V cs):x= .agg cs:=by cases x<;>cases h<;>rfl
def apG {x:SV} {cs:bf} (h:SL x=V cs):x= .dq cs:=by cases x<;>cases h<;>rfl
def aam {x:SV} (h:aBh x=V i):x= .mp i:=by cases x<;>cases h<;>rfl
def avQ {x:SV} {q:Nat×Nat×Nat×Cp} (h:aAN x=V q):x= .sl q.1 q.2.1 q.2.2.1 q.2.2.2:=by cases x<;>cases h<;>rfl
def FU {x:SV} (h:Ry x=V n):(∃i o c,x= .sl i o n c)\/(x= .cr/\n=0)\/(x= .sle/\n=0):=by
 cases x<;>first|(cases h;exact .inl ⟨_,_,_,rfl⟩)|(cases h;exact .inr (.inl ⟨rfl,rfl⟩))|(cases h;exact .inr (.inr ⟨rfl,rfl⟩))|cases h
def aqv {x y:SV} (h:abA x=V y):y=x/\((∃i o,x= .ptr i o)\/∃f a c,x= .fn f a c):=by
 cases x<;>first|(cases h;exact ⟨rfl,.inl ⟨_,_,rfl⟩⟩)|(cases h;exact ⟨rfl,.inr ⟨_,_,_,rfl⟩⟩)|cases h
def sg {d:UD} (h:oM d=V e):d= .slice e:=by cases d<;>cases h<;>rfl
def L8 {d:UD} {fs:List FL} (h:Aj d=V fs):d= .struct fs:=by cases d<;>cases h<;>rfl
def Mw {d:UD} {q:ll×ll} (h:G0 d=V q):d= .map q.1 q.2:=by cases d<;>cases h<;>rfl
def alM {d:UD} (h:Ia d=M):d= .string:=by cases d<;>cases h<;>rfl
def agR {d:UD} (h:Pn d=M):d= .bool:=by cases d<;>cases h<;>rfl
def sq {o:A SO} {p:ll×bf} (h:mM o=V p):o=V (.cells p.1 p.2):=by
 unfold mM at h;split at h
 ·simp at h;subst h;rfl
 ·simp at h
def FQ {o:A SO} {p:iC×Nat} (h:kZ o=V p):o=V (.map p.1 p.2):=by
 unfold kZ at h;split at h
 ·simp at h;subst h;rfl
 ·simp at h
def aqK {o:A SO} (h:Pm o=V p):o=V (.qo p.1 p.2):=by
 unfold Pm at h;split at h
 ·simp at h;subst h;rfl
 ·simp at h
def oO {a b:KH} (h:iD a b=M):a=b:=by
 cases a<;>cases b<;>first|rfl|(simp[iD] at h)
def aqJ (a:KH):iD a a=M:=by cases a<;>rfl
def DM (a b:Int):J4 a b=U (a=b):=by
 cases a<;>cases b<;>simp[J4,beq_eq]
 rename_i m n;exact ⟨λh=>by rw[h],λh=>WT h⟩
def xT (a b:Int):Dd a b=U (a<b):=by
 cases a<;>cases b<;>simp only[Dd,ble_eq,Ou]
 ·rename_i m n;simp only[Hw];omega
 ·rename_i m n;simp only[eq_comm (a:=B),decide_eq_false_iff_not,Hw];omega
 ·rename_i m n;simp only[eq_comm (a:=M),j2,Hw];omega
 ·rename_i m n;omega
def NN (P:E') (t:ll):UD->Prop
 | .bool=>P.underlying t=V .bool
 | .int k=>P.underlying t=V (.int k)
 | .string=>P.underlying t=V .string
 | .pointer=>∃e,P.underlying t=V (.pointer e)
 | .slice e=>P.underlying t=V (.slice e)
 | .array n e=>P.underlying t=V (.array n e)
 | .map k e=>P.underlying t=V (.map k e)
 | .struct fs=>∃a:Array Field,P.underlying t=V (.struct a)/\a.toList.map (λf=>FL.mk f.type f.offset (U (f.name≠ "_")))=fs/\∀f∈a.toList,(P.info? f.type).isSome=M
 | .func=>∃a b c,P.underlying t=V (.func a b c)
 | .interface=>∃ms,P.underlying t=V (.interface ms)
 | .other=>False
def aih (agg:Bool) (z:BL) (cs:bf):Prop:=
 (∀g,iy g z.cells.toList cs)/\(agg=M->∃a,z= .agg a)/\(agg=B->z.oneCell'=M)
structure E7 (P:E') (t:ll) (i:TI):Prop where
 desc:NN P t i.desc
 info:∃f z,P.info? t=V f/\f.size=i.size/\f.bytes=i.bytes/\f.comparable=i.comparable/\f.zero=V z/\aih (nq i.desc) z i.zero/\(nq i.desc=M->i.zero.length=i.size)
structure fR (E:Env) (g:Gh):Prop where
 ty:∀t i,E.ty.get t=V i->E7 E.P t i
 fn:∀f x,E.fn.get f=V x->E.P.funcs[f]? =V x
 lt:∀a b r,(a,b,r)∈E.lt->U (a.ev g.η<b.ev g.η)=r
 eq:∀a b r,(a,b,r)∈E.eq->U (a.ev g.η=b.ev g.η)=r
 mix:E.P.follows .mixedOrders=M
 sz:∀t,g.sz t=E.P.cellsOf t
def fR.mono {E:Env} {g g':Gh} (h:fR E g) (hle:g.le g'):fR E g':=
 ⟨h.ty,h.fn,λa b r hm=>by rw[hle.η];exact h.lt a b r hm,λa b r hm=>by rw[hle.η];exact h.eq a b r hm,h.mix,λt=>by rw[hle.sz];exact h.sz t⟩
def fR.size {E:Env} {g:Gh} (h:fR E g) {i:TI} (hi:E.ty.get t=V i):g.sz t=i.size:=by
 let ⟨f,z,h1,h2,_⟩:=(h.ty t i hi).info;rw[h.sz,Program.cellsOf,h1];simpa using h2
def AJ {E:Env} {g:Gh} (hE:fR E g) {a b:SI} {r:Bool} (h:FT E a b=V r):U (a.ev g.η<b.ev g.η)=r:=by
 unfold FT at h;split at h
 ·simp at h;subst h;rw[xT];rfl
def RR {E:Env} {g:Gh} (hE:fR E g) {a b:SI} {r:Bool} (h:eqI E a b=V r):U (a.ev g.η=b.ev g.η)=r:=by
 unfold eqI at h;split at h
 ·simp at h;subst h;rw[DM];rfl
def Uj:∀(a b:List UInt8),uG a b=U (a=b)
 | [],[]=>by simp[uG]
 | [],_::_=>by simp[uG]
 |_::_,[]=>by simp[uG]
 |a::l,b::m=>by
  rw[uG,Uj l m,beq_eq,oa];simp only[bJ,j2,List.cons.injEq];rw[<-UInt8.toNat_inj]
def yr (a b:Z):GP a b=U (a=b):=by
 unfold GP;rw[Uj,Ou];constructor
 ·intro h;cases a with|mk a=>cases b with|mk b=>simp at h;simp[h]
 ·intro h;rw[h]
def Eg {J:Type} {P:E'}:∀{s:Sem J} {a:J},o7 P s=V a->∀w,s.run P w= .ok a w
 | .pure a,_,h,w=>by simp[o7] at h;subst h;rfl
 | .program k,a,h,w=>Eg (s:=k P) h w
 | .load ..,_,h,_| .store ..,_,h,_| .new ..,_,h,_| .shape ..,_,h,_| .freeze ..,_,h,_| .frozen ..,_,h,_| .getObj ..,_,h,_| .setObj ..,_,h,_| .choose ..,_,h,_| .sys ..,_,h,_| .mark ..,_,h,_| .halt _,_,h,_=>by simp[o7] at h
mutual
def zp (g:Gh):∀(v:BL),VR g v (wO v)
 | .bool b=>.bool b
 | .int k n=>.int k _ rfl
 | .string s=>.str s
 | .pointer G=>.vN
 | .pointer (V _)=>.undef _
 | .slice G 0 0=>.cr
 | .slice G 0 (_+1)=>.undef _
 | .slice G (_+1) _=>.undef _
 | .slice (V _) _ _=>.undef _
 | .map G=>.pT
 | .map (V _)=>.undef _
 | .nilFunc=>.vf
 | .agg ⟨cs⟩=>by
  unfold wO;rw[cI];split
  ·rename_i hc;refine .agg ?_;have hr:=Hc g cs;refine iy.mk hr.length λj v x hv hx=> ?_
   let ⟨u,hu,hd⟩:=hr.get hx;have hv:cs[j]? =V v:=hv;rw[hv] at hu;obtain rfl:v=u:=by simpa using hu
   exact ⟨j1.1 hc v (bU hv),hd⟩
  ·exact .undef _
 | .tuple ⟨cs⟩=>.dq (Hc g cs)
 | .float _ _| .complex _ _ _| .chan _| .func _ _ _| .iface _ _| .nilIface=>.undef _
def Hc (g:Gh):∀(vs:fM),nD g vs (ue vs)
 | []=>.nil
 |v::vs=>.cons (zp g v) (Hc g vs)
end
section
variable {E:Env} {g:Gh} {w:World}
variable {P:E'}
def C5 {i:TI} (h:E7 P t i) (w:World):(isAgg t).run P w= .ok (nq i.desc) w:=by
 have hd:=h.desc;generalize i.desc=d at hd;cases d<;>simp only[NN] at hd
 case pointer=>let ⟨e,he⟩:=hd;simp only[isAgg,B',run_underlying he,D'];rfl
 case struct=>let ⟨e,he,_⟩:=hd;simp only[isAgg,B',run_underlying he,D'];rfl
 case func=>let ⟨_,_,_,he⟩:=hd;simp only[isAgg,B',run_underlying he,D'];rfl
 case interface=>let ⟨e,he⟩:=hd;simp only[isAgg,B',run_underlying he,D'];rfl
 all_goals (simp only[isAgg,B',run_underlying hd,D'];rfl)
def pr {i:TI} (h:E7 P t i) (w:World):(sizeOf t).run P w= .ok i.size w:=by
 let ⟨f,z,h1,h2,_⟩:=h.info;simp[sizeOf,typeInfo,h1,h2]
def afQ {i:TI} (h:E7 P t i):∃z,(∀w,(zeroValue t).run P w= .ok z w)/\aih (nq i.desc) z i.zero/\(nq i.desc=M->i.zero.length=i.size):=by
 let ⟨f,z,h1,_,_,_,h5,h6⟩:=h.info;exact ⟨z,λw=>by simp[zeroValue,typeInfo,h1,h5],h6⟩
def C7 {i:TI} (hi:E7 P t i) {cs:bf} {x:SV} {vs:jP} (h:jr i cs off=V x) (hc:iy g vs.toList cs) (w:World):
  ∃v,(part t vs off).run P w= .ok v w/\VR g v x:=by
 unfold jr at h;rw[cI] at h;split at h
 ·rename_i ha;let ⟨hl,h⟩:=aZ h;simp at h;subst h;refine ⟨.agg (vs.extract off (off+i.size)),?_,.agg ?_⟩
  ·simp only[part,B',C5 hi,D',ha,ax,pr hi,E2]
  ·have:(vs.extract off (off+i.size)).toList=(vs.toList.drop off).take i.size:=by simp[List.extract_eq_take_drop]
   rw[this];exact (hc.drop off).take _
 ·rename_i ha;let ⟨v,hv,_,hd⟩:=hc.get h;refine ⟨v,?_,hd⟩;have FZ:vs[off]? =V v:=by simpa using hv
  have ha:nq i.desc=B:=by simpa using ha
  simp only[part,B',C5 hi,D',ha,az,au,FZ,E2]
def aqr {i:TI} (hz:aih (nq i.desc) z i.zero) (hl:nq i.desc=M->i.zero.length=i.size) {x:SV} (h:jr i i.zero 0=V x):VR g z x:=by
 unfold jr at h;rw[cI] at h;let ⟨h1,h2,h3⟩:=hz;split at h
 ·rename_i ha;let ⟨_,h⟩:=aZ h;simp at h;subst h;obtain ⟨a,rfl⟩:=h2 ha;rw[<-hl ha,nF];exact .agg (h1 g)
 ·rename_i ha;have ho:=h3 (by simpa using ha)
  let ⟨v,hv,_,hd⟩:=(h1 g).get h;have:z.cells= #[z]:=by cases z<;>first|rfl|(simp[Value.oneCell'] at ho)
  rw[this] at hv;simp at hv;subst hv;exact hd
def VR.jy {x:SV} {cs:bf} (h:VR g v x) (hx:x.cells=V cs):iy g v.cells.toList cs:=by
 cases h with
 |agg h=>cases hx;exact h
 |dq h=>cases hx
 |undef v=>cases hx
 |bool b=>cases hx;exact .cons rfl (.bool b) .nil
 |int k e h=>cases hx;exact .cons rfl (.int k e h) .nil
 |str s=>cases hx;exact .cons rfl (.str s) .nil
 |ptr h=>cases hx;exact .cons rfl (.ptr h) .nil
 |vN=>cases hx;exact .cons rfl .vN .nil
 |sl a b c d=>cases hx;exact .cons rfl (.sl a b c d) .nil
 |sle=>cases hx;exact .cons rfl .sle .nil
 |cr=>cases hx;exact .cons rfl .cr .nil
 |mp h=>cases hx;exact .cons rfl (.mp h) .nil
 |pT=>cases hx;exact .cons rfl .pT .nil
 |fn a b=>cases hx;exact .cons rfl (.fn a b) .nil
 |vf=>cases hx;exact .cons rfl .vf .nil
def tG {tm:Tf} (h:FR g nt tm a.tmps) {v:SV} (hv:dt tm x=V v):VR g (a.eval x) v:=by
 cases x with
 |tmp t=>exact h.tm t v hv
 |const u=>cases hv;exact zp g u
 |global _=>cases hv
 |func f=>cases hv;exact .fn .nil .nil
def BB {nt:Nat} {tm:Tf} {a:Act} (h:FR g nt tm a.tmps):∀{xs:List C'} {vs:bf},gj tm xs=V vs->nD g (xs.map a.eval) vs
 | [],_,hv=>by cases hv;exact .nil
 |x::xs,vs,hv=>by
  let ⟨v,l,h1,h2,h3⟩:=bT hv;cases h3;exact .cons (tG h h1) (BB h h2)
def aib {r k:A Bool} {b:Bool} (h:andThen r k=V b):(r=V M/\k=V b)\/(r=V B/\b=B):=by
 cases r with
 |none=>simp[andThen] at h
 |some c=>cases c<;>simp[andThen] at h<;>simp[h]
def aas {E:Env} (hE:fR E g) {eq:ll->SV->SV->A Bool} {m:Nat} (heq:∀(t:ll) (x y:SV) (b:Bool),eq t x y=V b->∀(u v:BL),VR g u x->VR g v y->∀w,(ab3 m t u v).run E.P w= .ok b w)
  {us vs:jP} {xs ys:bf} (hx:iy g us.toList xs) (hy:iy g vs.toList ys):∀(l:List Field) (b:Bool),Kr E eq xs ys (l.map λf=>FL.mk f.type f.offset (U (f.name≠ "_")))=V b->∀w,(Op.eqFields m us vs l).run E.P w= .ok b w
 | [],b,h,w=>by cases h;simp[Op.eqFields]
 |f::l,b,h,w=>by
  simp only[ki,Kr] at h;let ⟨hn,h⟩:=aZ h;let ⟨i,hi,h⟩:=aq h;let ⟨x,y,hpx,hpy,h⟩:=bT h;have aFN:f.name≠ "_" :=by simpa using hn
  let ⟨v1,Ih,EL⟩:=C7 (hE.ty _ _ hi) hpx hx w;let ⟨v2,hr2,hd2⟩:=C7 (hE.ty _ _ hi) hpy hy w;rcases aib h with ⟨h1,h2⟩|⟨h1,rfl⟩
  ·have he:=heq _ _ _ _ h1 v1 v2 EL hd2 w;simp only[Op.eqFields,aF aFN,B',Ih,hr2,he,D',ab4,E2];simpa using aas hE heq hx hy l b h2 w
  ·have he:=heq _ _ _ _ h1 v1 v2 EL hd2 w;simp only[Op.eqFields,aF aFN,B',Ih,hr2,he,D',ab4,E2];simp
def ahF {E:Env} (hE:fR E g):∀(n:Nat) (t:ll) (x y:SV) (b:Bool),eqT E n t x y=V b->∀(u v:BL),VR g u x->VR g v y->∀(d:Nat) (w:World),(ab3 (n+d) t u v).run E.P w= .ok b w
 |0,_,_,_,_,h=>by cases h
 |n+1,t,x,y,b,h=>by
  intro u v hu hv d w;have F0:n+1+d=(n+d)+1:=by omega
  rw[F0];let ⟨i,hi,h⟩:=aq (show ay (E.ty.get t) (λi=>eqD i.desc E (eqT E n) t x y)=V b from h)
  have hT:=hE.ty t i hi;have hd:=hT.desc;generalize i.desc=D at hd h;cases D with
  |bool=>
   let ⟨p,q,h1,h2,h3⟩:=bT (show cj (uH x) (uH y) _=V b from h);obtain rfl:=Bn h1;obtain rfl:=Bn h2;cases hu;cases hv;cases h3;exact run_equalIn_bool' w _ t _ _ hd
  |int k=>
   let ⟨p,q,h1,h2,h3⟩:=bT (show cj (intOf x) (intOf y) _=V b from h);let ⟨hk,h3⟩:=aZ h3;obtain rfl:=tV h1;obtain rfl:=tV h2;have hk:=oO hk;have hb:=RR hE h3;cases hu with|int _ _ e1=>cases hv with|int _ _ e2=>
   rw[hk,run_equalIn_int w _ t _ _ _ _ hd,e1,e2,<-hb];congr 1
  |string=>
   let ⟨p,q,h1,h2,h3⟩:=bT (show cj (strOf x) (strOf y) _=V b from h);obtain rfl:=rJ h1;obtain rfl:=rJ h2;cases hu;cases hv;cases h3;rw[run_equalIn_string w _ t _ _ hd,yr];congr 1;rw[ac2,ac2,oa];simp only[sR,j2];constructor
   ·intro h;cases p with|mk a=>cases q with|mk c=>simp at h;simp[h]
   ·intro h;rw[h]
  |pointer=>
   let ⟨e,hd⟩:=hd;have h:arD x y=V b:=h;unfold arD at h;split at h<;>first|(cases hu;cases hv;cases h;simp[ab3,run_underlying hd];done)|(simp at h)
  |slice e=>
   have h:aCE x y=V b:=h;unfold aCE at h;split at h<;>first|(cases hu;cases hv;cases h;simp[ab3,run_underlying hd];done)|(simp at h)
  |array _ _=>cases h
  |map _ _=>
   have h:arE x y=V b:=h;unfold arE at h;split at h<;>first|(cases hu;cases hv;cases h;simp[ab3,run_underlying hd];done)|(simp at h)
  |struct fs=>
   let ⟨a,hd,hfs,_⟩:=hd;let ⟨p,h1,h2⟩:=aq (show ay (azv x y) _=V b from h);let ⟨xs,ys,h3,h4,h5⟩:=bT h1;cases h5;obtain rfl:=Dl h3;obtain rfl:=Dl h4;rw[cI] at h2;split at h2
   ·simp at h2
   ·rename_i hp;have hp:E.P.stoodInHeld t=B:=by simpa using hp
    cases hu with|agg hx=>cases hv with|agg hy=>
    have hf:E.P.fieldsOf t=a:=by simp[Program.fieldsOf,hd]
    rw[run_equalIn_struct w _ t _ _ (by rw[hf];exact hd) hp,hf]
    subst hfs;exact aas hE (λt x y b h u v hu hv w=>ahF hE n t x y b h u v hu hv d w) hx hy a.toList b h2 w
  |func=>
   let ⟨_,_,_,hd⟩:=hd;have h:aCH x y=V b:=h;unfold aCH at h;split at h<;>first|(cases hu;cases hv;cases h;simp[ab3,run_underlying hd];done)|(simp at h)
  |interface=>cases (show G=V b from h)
  |other=>exact hd.elim
end
section
variable {E:Env} {g:Gh} {w:World}
variable {P:E'} {y oy:C'} {dst:ll}
def aJS (η:Nat->Int) (k:KH) (a b:SI):(aif k a b).ev η=k.wrap (a.ev η+b.ev η):=by
 unfold aif;split<;>rfl
def amb (η:Nat->Int) (k:KH) (a b:SI):(Q7 k a b).ev η=k.wrap (a.ev η - b.ev η):=by
 unfold Q7;split<;>rfl
def aCX (η:Nat->Int) (k:KH) (a:SI):(abV k a).ev η=k.wrap (a.ev η):=by
 unfold abV;split<;>rfl
def G9 {op:S'} {a b:BL} (h:P.eqGuardType P.depth t=B\/(∀cs,a≠ .agg cs)) (h2:a≠ .nilIface\/(isConst x||isConst y)=M) (w:World):(eqGuard op t x y a b).run P w= .ok () w:=by
 cases a<;>first
  |(cases op<;>rfl)
  |(
   rcases h2 with h2|h2
   ·exact absurd rfl h2
   ·cases b<;>first
     |(cases op<;>rfl)
     |(cases op<;>first|rfl|(cases x<;>cases y<;>first|rfl|(simp[isConst] at h2)))
   )
  |(
   rcases h with h|h
   ·cases b<;>first|(cases op<;>rfl)|exact run_eqGuard_agg w op t x y _ _ h
   ·exact absurd rfl (h _))
def r5 {r:A Bool} {z:SV} (h:mi neg r=V z):∃b,r=V b/\z= .bool (if neg then !b else b):=by
 let ⟨b,h1,h2⟩:=aq h;cases h2;exact ⟨b,h1,by cases neg<;>rfl⟩
def Ti {r:A BL} {z:SV} (h:JR r=V z):∃v,r=V v/\z=wO v:=by
 let ⟨v,h1,h2⟩:=aq h;cases h2;exact ⟨v,h1,rfl⟩
def ayI (E:Env) (eq:ll->SV->SV->A Bool) (t:ll) (d:UD) (y:SV):eqD d E eq t .undef y=G:=by
 cases d<;>rfl
def ayH (E:Env) (n:Nat) (t:ll) (y:SV):eqT E n t .undef y=G:=by
 cases n with
 |zero=>rfl
 |succ n=>
  show ay (E.ty.get t) (λi=>eqD i.desc E (eqT E n) t .undef y)=G
  cases E.ty.get t with
  |none=>rfl
  |some i=>exact ayI _ _ _ _ _
def aqC {op:S'} {k k':KH} {a b:SI} {z:SV} (h:abD E op t k k' a b=V z):∃m n v,a= .lit m/\b= .lit n/\o7 E.P (binOp op t (.int k m) (.int k' n))=V v/\z=wO v:=by
 unfold abD at h;split at h
 ·rename_i m n;let ⟨v,h1,h2⟩:=Ti h;exact ⟨m,n,v,rfl,rfl,h1,h2⟩
def ayw (x y:Int):(x==y)=U (x=y):=by rw[oa];simp
def decLe (x y:Int):U (x<=y)= !U (y<x):=by rw[oa];simp
def VR.Gn {b c:Bool} (h:b=c):VR g (.bool b) (.bool c):=by subst h;exact .bool b
def aqN (hE:fR E g) {op:S'} {k k':KH} {a b:SI} {z:SV} (h:aqO op E op t k k' a b=V z) (w:World):
  ∃r,(binOp op t (.int k (a.ev g.η)) (.int k' (b.ev g.η))).run E.P w= .ok r w/\VR g r z:=by
 have lit:abD E op t k k' a b=V z->∃r,(binOp op t (.int k (a.ev g.η)) (.int k' (b.ev g.η))).run E.P w= .ok r w/\VR g r z:=by
  intro h;obtain ⟨m,n,v,rfl,rfl,h1,rfl⟩:=aqC h;exact ⟨v,Eg h1 w,zp g v⟩
 cases op with
 |add=>
  let ⟨hk,h⟩:=aZ (show aS (iD k k') (V (SV.int k (aif k a b))) G=V z from h);cases h;obtain rfl:=oO hk;exact ⟨_,by simp[binOp,Op.intArith]<;>rfl,.int _ _ (aJS _ _ _ _).symm⟩
 |sub=>
  let ⟨hk,h⟩:=aZ (show aS (iD k k') (V (SV.int k (Q7 k a b))) G=V z from h);cases h;obtain rfl:=oO hk;exact ⟨_,by simp[binOp,Op.intArith]<;>rfl,.int _ _ (amb _ _ _ _).symm⟩
 |eql=>
  let ⟨hk,h⟩:=aZ (show aS (iD k k') (mi B (eqI E a b)) G=V z from h);obtain ⟨c,h1,rfl⟩:=r5 h;obtain rfl:=oO hk;exact ⟨_,by simp[binOp,Op.intCmp]<;>rfl,VR.Gn (by have:=RR hE h1;rw[ayw,this];rfl)⟩
 |neq=>
  let ⟨hk,h⟩:=aZ (show aS (iD k k') (mi M (eqI E a b)) G=V z from h);obtain ⟨c,h1,rfl⟩:=r5 h;obtain rfl:=oO hk;exact ⟨_,by simp[binOp,Op.intCmp]<;>rfl,VR.Gn (by have:=RR hE h1;rw[<-this,<-ayw];rfl)⟩
 |lss=>
  let ⟨hk,h⟩:=aZ (show aS (iD k k') (mi B (FT E a b)) G=V z from h);obtain ⟨c,h1,rfl⟩:=r5 h;obtain rfl:=oO hk;exact ⟨_,by simp[binOp,Op.intCmp]<;>rfl,VR.Gn (by have:=AJ hE h1;simpa using this)⟩
 |gtr=>
  let ⟨hk,h⟩:=aZ (show aS (iD k k') (mi B (FT E b a)) G=V z from h);obtain ⟨c,h1,rfl⟩:=r5 h;obtain rfl:=oO hk;exact ⟨_,by simp[binOp,Op.intCmp]<;>rfl,VR.Gn (by have:=AJ hE h1;simpa using this)⟩
 |leq=>
  let ⟨hk,h⟩:=aZ (show aS (iD k k') (mi M (FT E b a)) G=V z from h);obtain ⟨c,h1,rfl⟩:=r5 h;obtain rfl:=oO hk;exact ⟨_,by simp[binOp,Op.intCmp]<;>rfl,VR.Gn (by have:=AJ hE h1;rw[<-this];first|exact decLe _ _|(rw[<-decLe];rfl))⟩
 |geq=>
  let ⟨hk,h⟩:=aZ (show aS (iD k k') (mi M (FT E a b)) G=V z from h);obtain ⟨c,h1,rfl⟩:=r5 h;obtain rfl:=oO hk;exact ⟨_,by simp[binOp,Op.intCmp]<;>rfl,VR.Gn (by have:=AJ hE h1;rw[<-this];first|exact decLe _ _|(rw[<-decLe];rfl))⟩
 |_=>exact lit h
def apO {op:S'} {a b:Z} {z:SV} (h:apP op E op t a b=V z) (w:World):
  ∃r,(binOp op t (.string a) (.string b)).run E.P w= .ok r w/\VR g r z:=by
 have lit:JR (o7 E.P (binOp op t (.string a) (.string b)))=V z->∃r,(binOp op t (.string a) (.string b)).run E.P w= .ok r w/\VR g r z:=by
  intro h;obtain ⟨v,h1,rfl⟩:=Ti h;exact ⟨v,Eg h1 w,zp g v⟩
 have hb:(a.toList==b.toList)=U (a=b):=by
  rw[ac2,ac2,oa];simp only[sR,j2];constructor
  ·intro h;cases a with|mk a=>cases b with|mk c=>simp at h;simp[h]
  ·intro h;rw[h]
 cases op with
 |eql=>cases h;exact ⟨_,by simp[binOp,Op.stringOp]<;>rfl,VR.Gn (by rw[yr];simpa using hb)⟩
 |neq=>cases h;exact ⟨.bool (!(a.toList==b.toList)),by simp[binOp,Op.stringOp,bne],VR.Gn (by rw[yr,hb])⟩
 |_=>exact lit h
def abl {a b:BL} (h1:∀k n,a≠ .int k n) (h2:∀k n,a≠ .float k n) (h3:∀k n m,a≠ .complex k n m) (h4:∀s,a≠ .string s) (w:World):
  (binOp .eql t a b).run P w=((ab3 10000 t a b).run P w).andThen λr w'=>.ok (.bool r) w':=by
 cases a<;>first|exact absurd rfl (h1 _ _)|exact absurd rfl (h2 _ _)|exact absurd rfl (h3 _ _ _)|exact absurd rfl (h4 _)|(simp only[binOp];simp[Op.equal,Op.maxDepth])
def abk {a b:BL} (h1:∀k n,a≠ .int k n) (h2:∀k n,a≠ .float k n) (h3:∀k n m,a≠ .complex k n m) (h4:∀s,a≠ .string s) (w:World):
  (binOp .neq t a b).run P w=((ab3 10000 t a b).run P w).andThen λr w'=>.ok (.bool (!r)) w':=by
 cases a<;>first|exact absurd rfl (h1 _ _)|exact absurd rfl (h2 _ _)|exact absurd rfl (h3 _ _ _)|exact absurd rfl (h4 _)|(simp only[binOp];simp[Op.equal,Op.maxDepth])
def agp (hE:fR E g) {op:S'} {x y z:SV} (hx:∀k e,x≠ .int k e) (hs:∀s,x≠ .str s) (h:Y4 op E t ox oy x y=V z) (hu:VR g u x) (hv:VR g v y) (w:World):
  ∃r,(do eqGuard op t ox oy u v;binOp op t u v:Sem BL).run E.P w= .ok r w/\VR g r z:=by
 have key:∀b,Kq E t ox oy x y=V b->(eqGuard op t ox oy u v).run E.P w= .ok () w/\(∀w,(binOp .eql t u v).run E.P w= .ok (.bool b) w)/\(∀w,(binOp .neq t u v).run E.P w= .ok (.bool (!b)) w):=by
  intro b he;let ⟨qe,he⟩:=aZ he;have rk:=λw=>ahF hE 20 t x y b he u v hu hv 9980 w
  simp only[show 20+9980=10000 from rfl] at rk;have hnu:x≠ .undef:=λe=>by rw[e,ayH] at he;simp at he
  have aLy:(∀k n,u≠ .int k n)/\(∀k n,u≠ .float k n)/\(∀k n m,u≠ .complex k n m)/\(∀s,u≠ .string s)/\(E.P.eqGuardType E.P.depth t=B\/(∀cs,u≠ .agg cs))/\(u≠ .nilIface\/(isConst ox||isConst oy)=M):=by
   cases hu<;>first|exact absurd rfl (hx _ _)|exact absurd rfl (hs _)|exact absurd rfl hnu|(simp;done)|(simp[aCG] at qe;simp[qe])
  let ⟨f1,f2,f3,f4,f5,f6⟩:=aLy;refine ⟨G9 f5 f6 w,λw=> ?_,λw=> ?_⟩
  ·rw[abl f1 f2 f3 f4,rk];rfl
  ·rw[abk f1 f2 f3 f4,rk];rfl
 cases op with
 |eql=>
  obtain ⟨b,h1,rfl⟩:=r5 (show mi B (Kq E t ox oy x y)=V z from h);let ⟨k1,k2,k3⟩:=key b h1;exact ⟨.bool b,by simp only[B',k1,D',k2],.bool b⟩
 |neq=>
  obtain ⟨b,h1,rfl⟩:=r5 (show mi M (Kq E t ox oy x y)=V z from h);let ⟨k1,k2,k3⟩:=key b h1;exact ⟨.bool (!b),by simp only[B',k1,D',k3],.bool (!b)⟩
 |_=>cases h
def azd (hE:fR E g) {op:S'} {x y z:SV} (h:R0 E op t ox oy x y=V z) (hu:VR g u x) (hv:VR g v y) (w:World):
  ∃r,(do eqGuard op t ox oy u v;binOp op t u v:Sem BL).run E.P w= .ok r w/\VR g r z:=by
 by_cases hx:∃k e,x= .int k e
 ·obtain ⟨k,a,rfl⟩:=hx;let ⟨p,h1,h2⟩:=aq (show ay (intOf y) (λp=>aqO op E op t k p.1 a p.2)=V z from h)
  obtain rfl:=tV h1;cases hu with|int _ _ e1=>cases hv with|int _ _ e2=>
  subst e1;subst e2;let ⟨r,q1,q2⟩:=aqN hE h2 w;exact ⟨r,by rw[B',G9 (P:=E.P) (a:=.int k (a.ev g.η)) (.inr (by simp)) (.inl (by simp))];exact q1,q2⟩
 ·by_cases hs:∃s,x= .str s
  ·obtain ⟨s,rfl⟩:=hs;let ⟨b,h1,h2⟩:=aq (show ay (strOf y) (λb=>apP op E op t s b)=V z from h)
   obtain rfl:=rJ h1;cases hu;cases hv;let ⟨r,q1,q2⟩:=apO (g:=g) h2 w;exact ⟨r,by rw[B',G9 (P:=E.P) (a:=.string s) (.inr (by simp)) (.inl (by simp))];exact q1,q2⟩
  ·have qz:∀k e,x≠ .int k e:=λk e q=>hx ⟨k,e,q⟩
   have Lz:∀s,x≠ .str s:=λs q=>hs ⟨s,q⟩
   refine agp hE qz Lz ?_ hu hv w;cases x<;>first|exact absurd rfl (qz _ _)|exact absurd rfl (Lz _)|exact h
def aKs {i:TI} (h:E7 P t i):∃d,P.underlying t=V d:=by
 have hd:=h.desc;generalize i.desc=d at hd;cases d<;>simp only[NN] at hd<;>first|exact ⟨_,hd⟩|exact ⟨_,hd.choose_spec⟩|exact ⟨_,hd.choose_spec.1⟩|exact ⟨_,hd.choose_spec.choose_spec.choose_spec⟩
def arT (hE:fR E g) {x z:SV} (h:Ug E src dst x=V z) (hu:VR g u x) (w:World):∃r,(convert src dst u).run E.P w= .ok r w/\VR g r z:=by
 let ⟨i,j,hi,hj,h⟩:=bT h;let ⟨d1,EL⟩:=aKs (hE.ty _ _ hi);have hd:=(hE.ty _ _ hj).desc;generalize j.desc=D at hd h;cases D with
 |int k=>
  let ⟨p,h1,h2⟩:=aq (show ay (intOf x) (λp=>V (SV.int k (abV k p.2)))=V z from h)
  cases h2;obtain rfl:=tV h1;cases hu with|int _ _ e1=>
  subst e1;exact ⟨_,by simp[convert,run_underlying EL,run_underlying hd,Conv.intToInt]<;>rfl,.int _ _ (aCX _ _ _).symm⟩
 |string=>
  have h:apQ x=V z:=h;unfold apQ at h;split at h
  ·cases h;cases hu;exact ⟨_,by simp[convert,run_underlying EL,run_underlying hd]<;>rfl,.str _⟩
  ·unfold aDW at h;split at h
   ·cases h;cases hu with|int _ _ e1=>
    subst e1;exact ⟨_,by simp[convert,run_underlying EL,run_underlying hd,Conv.intToString]<;>rfl,.str _⟩
  ·cases h
 |_=>cases h
def aAC {op:UnOp} {x z:SV} (h:unA op x=V z) (hu:VR g u x) (w:World):∃r,(Op.unary op u).run P w= .ok r w/\VR g r z:=by
 cases hu with
 |bool b=>
  let ⟨h1,h2⟩:=aZ (show aS (TQ op) (V (SV.bool (!b))) G=V z from h);cases h2;cases op<;>first|(simp[TQ] at h1;done)|exact ⟨_,rfl,.bool _⟩
 |int k e he=>
  let ⟨h1,h2⟩:=aZ (show aS (isNeg op) (V (SV.int k (Q7 k (.lit 0) e))) G=V z from h);cases h2;subst he;cases op<;>first|(simp[isNeg] at h1;done)|exact ⟨.int k (k.wrap (0-e.ev g.η)),by simp[Op.unary,Op.intArith],.int _ _ (by rw[amb];simp only[SI.ev])⟩
 |_=>cases h
end
section
variable {E:Env} {g:Gh} {f:Hf} {w:World}
variable {P:E'}
def jB (f:Hf) (u:Up):Hf:=λj=>if j=u.1 then u.2 else f j
def hZ (f:Hf):hJ->Hf
 | []=>f
 |u::us=>hZ (jB f u) us
def Gh.bind (g:Gh) (id:Nat) (p:Nat×Nat) (l:Nat) (e:ll):Gh:=⟨g.η,g.sz,λj=>if j=id then V p else g.O j,λj=>if j=id then l else g.lim j,λj=>if j=id then e else g.et j,g.wb⟩
def Gh.H9 {id:Nat} {p:Nat×Nat} (h:g.O id=G):g.le (g.bind id p l e):=by
 have key:∀j q,g.O j=V q->j≠id:=λj q hq e=>by subst e;rw[h] at hq;simp at hq
 refine ⟨rfl,rfl,λj q hq=> ?_,λj q hq=> ?_,λj q hq=> ?_,rfl⟩
 ·show (if j=id then V p else g.O j)=V q
  rw[aC (key j q hq)];exact hq
 ·exact aC (key j q hq)
 ·exact aC (key j q hq)
def Gh.kn (g:Gh) (id:Nat) (p:Nat×Nat) (l:Nat) (e:ll):(g.bind id p l e).O id=V p:=by simp[Gh.bind]
def Gh.AX (g:Gh) (id:Nat) (p:Nat×Nat) (l:Nat) (e:ll):(g.bind id p l e).lim id=l:=by simp[Gh.bind]
def Gh.DR (g:Gh) (id:Nat) (p:Nat×Nat) (l:Nat) (e:ll):(g.bind id p l e).et id=e:=by simp[Gh.bind]
def Gh.mO (g:Gh) {id j:Nat} (p:Nat×Nat) (l:Nat) (e:ll) (h:j≠id):(g.bind id p l e).O j=g.O j:=by simp[Gh.bind,h]
def HR.HZ (h:HR g f w) {id:Nat} (hn:g.O id=G):f id=G:=by
 cases hf:f id with
 |none=>rfl
 |some o=>
  let ⟨b,c,h1,_⟩:=h.ob id o hf;rw[hn] at h1;simp at h1
def HR.sub (h:HR g f w) {f':Hf} (hs:∀id o,f' id=V o->f id=V o):HR g f' w:=
 ⟨λid o ho=>h.ob id o (hs id o ho),λi j x y b c d hx hy h1 h2=>h.inj i j x y b c d (hs i x hx) (hs j y hy) h1 h2⟩
def HR.write (h:HR g f w) {id b:Nat} {o o':SO} (hf:f id=V o) (hρ:g.O id=V (b,c)) (oQ:w'.heap.size=w.heap.size) (Ke:∀k,k≠b->w'.heap[k]? =w.heap[k]?) (Ii:OR g w' id b c o') (h1:w'.os=w.os) (h2:w'.tape=w.tape) (h3:w'.output=w.output):
  HR g (jB f (id,V o')) w'/\Fr g f w g (jB f (id,V o')) w':=by
 have hb:b<w.heap.size:=by
  let ⟨b',c',q1,q2,_⟩:=h.ob id o hf;rw[hρ] at q1;obtain ⟨rfl,rfl⟩:b=b'/\c=c':=by simpa using q1
  exact q2
 refine ⟨⟨λj x hx=> ?_,λi j x y b1 c1 d1 hx hy e1 e2=> ?_⟩,⟨h1,h2,h3,by omega,.refl _,λk hk hn=>Ke k (λe=>hn ⟨id,o,c,hf,by rw[e];exact hρ⟩),λk hk hm=> ?_⟩⟩
 ·simp only[jB] at hx;split at hx
  ·rename_i e;subst e;cases hx;exact ⟨b,c,hρ,by omega,Ii⟩
  ·rename_i e;let ⟨b1,c1,q1,q2,q3⟩:=h.ob j x hx;refine ⟨b1,c1,q1,by omega,q3.mono (.refl _) q1 (Ke b1 (λe'=> ?_))⟩
   subst e';exact e (h.inj j id x o b1 c1 c hx hf q1 hρ)
 ·have key:∀k z,jB f (id,V o') k=V z->∃z',f k=V z':=by
   intro k z hz;simp only[jB] at hz;split at hz
   ·rename_i e;subst e;exact ⟨o,hf⟩
   ·exact ⟨z,hz⟩
  let ⟨x',qz⟩:=key i x hx;let ⟨y',hy'⟩:=key j y hy;exact h.inj i j x' y' b1 c1 d1 qz hy' e1 e2
 ·let ⟨j,x,d,hx,hd⟩:=hm;simp only[jB] at hx;split at hx
  ·rename_i e;subst e;exact ⟨_,o,d,hf,hd⟩
  ·exact ⟨j,x,d,hx,hd⟩
def HR.alloc (h:HR g f w) (hn:g.O new=G) {o':SO} (hw:w'=w.alloc ob) (Ii:OR (g.bind new (w.heap.size,0) l e) w' new w.heap.size 0 o'):
  HR (g.bind new (w.heap.size,0) l e) (jB f (new,V o')) w'/\Fr g f w (g.bind new (w.heap.size,0) l e) (jB f (new,V o')) w':=by
 subst hw;have MW:=h.HZ hn;have hle:=Gh.H9 (p:=(w.heap.size,0)) (l:=l) (e:=e) hn;have oQ:(w.alloc ob).heap.size=w.heap.size+1:=by simp
 refine ⟨⟨λj x hx=> ?_,λi j x y b1 c1 d1 hx hy e1 e2=> ?_⟩,⟨rfl,rfl,rfl,by omega,hle,λk hk _=>heap_alloc_old w ob hk,λk hk hm=> ?_⟩⟩
 ·simp only[jB] at hx;split at hx
  ·rename_i e;subst e;cases hx;exact ⟨w.heap.size,0,Gh.kn _ _ _ _ _,by omega,Ii⟩
  ·rename_i e;let ⟨b1,c1,q1,q2,q3⟩:=h.ob j x hx;exact ⟨b1,c1,(Gh.mO g _ _ _ e).trans q1,by omega,q3.mono hle q1 (heap_alloc_old w ob q2)⟩
 ·simp only[jB] at hx hy;split at hx
  ·rename_i ei;subst ei;split at hy
   ·rename_i ej;exact ej.symm
   ·rename_i ej;rw[Gh.kn] at e1;rw[Gh.mO g _ _ _ ej] at e2;let ⟨b2,c2,q1,q2,_⟩:=h.ob j y hy;rw[e2] at q1;simp at e1 q1;omega
  ·rename_i ei;rw[Gh.mO g _ _ _ ei] at e1;split at hy
   ·rename_i ej;subst ej;rw[Gh.kn] at e2;let ⟨b2,c2,q1,q2,_⟩:=h.ob i x hx;rw[e1] at q1;simp at e2 q1;omega
   ·rename_i ej;rw[Gh.mO g _ _ _ ej] at e2;exact h.inj i j x y b1 c1 d1 hx hy e1 e2
 ·let ⟨j,x,d,hx,hd⟩:=hm;simp only[jB] at hx;split at hx
  ·rename_i e;subst e;rw[Gh.kn] at hd;simp at hd;omega
  ·rename_i e;rw[Gh.mO g _ _ _ e] at hd;exact ⟨j,x,d,hx,hd⟩
def HR.kill (h:HR g f w) (id:Nat):HR g (jB f (id,G)) w/\Fr g f w g (jB f (id,G)) w:=by
 have key:∀k z,jB f (id,G) k=V z->f k=V z:=by
  intro k z hz;simp only[jB] at hz;split at hz
  ·simp at hz
  ·exact hz
 refine ⟨h.sub key,⟨rfl,rfl,rfl,cS _,.refl _,λ_ _ _=>rfl,λk hk hm=> ?_⟩⟩
 let ⟨j,x,d,hx,hd⟩:=hm;exact ⟨j,x,d,key j x hx,hd⟩
def HR.rename (h:HR g f w) {id b c':Nat} {o o':SO} (hn:g.O new=G) (hf:f id=V o) (hρ:g.O id=V (b,c)) (oQ:w'.heap.size=w.heap.size) (Ke:∀k,k≠b->w'.heap[k]? =w.heap[k]?) (Ii:OR (g.bind new (b,c') l e) w' new b c' o') (h1:w'.os=w.os) (h2:w'.tape=w.tape) (h3:w'.output=w.output):
  HR (g.bind new (b,c') l e) (jB (jB f (id,G)) (new,V o')) w'/\Fr g f w (g.bind new (b,c') l e) (jB (jB f (id,G)) (new,V o')) w':=by
 have hle:=Gh.H9 (p:=(b,c')) (l:=l) (e:=e) hn;have MW:=h.HZ hn;have hb:b<w.heap.size:=by
  let ⟨b',c',q1,q2,_⟩:=h.ob id o hf;rw[hρ] at q1;obtain ⟨rfl,rfl⟩:b=b'/\c=c':=by simpa using q1
  exact q2
 have key:∀j x,jB (jB f (id,G)) (new,V o') j=V x->(j=new/\x=o')\/(j≠new/\j≠id/\f j=V x):=by
  intro j x hx;simp only[jB] at hx;split at hx
  ·rename_i e;cases hx;exact .inl ⟨e,rfl⟩
  ·rename_i e;split at hx
   ·simp at hx
   ·rename_i e';exact .inr ⟨e,e',hx⟩
 have BX:∀j x d,j≠id->f j=V x->g.O j=V (b,d)->False:=λj x d hj hx hd=>hj (h.inj j id x o b d c hx hf hd hρ)
 refine ⟨⟨λj x hx=> ?_,λi j x y b1 c1 d1 hx hy e1 e2=> ?_⟩,⟨h1,h2,h3,by omega,hle,λk hk hn=>Ke k (λe=>hn ⟨id,o,c,hf,by rw[e];exact hρ⟩),λk hk hm=> ?_⟩⟩
 ·rcases key j x hx with ⟨rfl,rfl⟩|⟨q1,q2,q3⟩
  ·exact ⟨b,c',Gh.kn _ _ _ _ _,by omega,Ii⟩
  ·let ⟨b1,c1,r1,r2,r3⟩:=h.ob j x q3;exact ⟨b1,c1,(Gh.mO g _ _ _ q1).trans r1,by omega,r3.mono hle r1 (Ke b1 (λe=>by subst e;exact BX j x c1 q2 q3 r1))⟩
 ·rcases key i x hx with ⟨rfl,rfl⟩|⟨q1,q2,q3⟩<;>rcases key j y hy with ⟨rfl,rfl⟩|⟨r1,r2,r3⟩
  ·rfl
  ·rw[Gh.kn] at e1;rw[Gh.mO g _ _ _ r1] at e2;obtain ⟨rfl,_⟩:b=b1/\c'=c1:=by simpa using e1
   exact (BX j y d1 r2 r3 e2).elim
  ·rw[Gh.kn] at e2;rw[Gh.mO g _ _ _ q1] at e1;obtain ⟨rfl,_⟩:b=b1/\c'=d1:=by simpa using e2
   exact (BX i x c1 q2 q3 e1).elim
  ·rw[Gh.mO g _ _ _ q1] at e1;rw[Gh.mO g _ _ _ r1] at e2;exact h.inj i j x y b1 c1 d1 q3 r3 e1 e2
 ·let ⟨j,x,d,hx,hd⟩:=hm;rcases key j x hx with ⟨rfl,rfl⟩|⟨q1,q2,q3⟩
  ·rw[Gh.kn] at hd;obtain ⟨rfl,_⟩:b=k/\c'=d:=by simpa using hd
   exact ⟨id,o,c,hf,hρ⟩
  ·rw[Gh.mO g _ _ _ q1] at hd;exact ⟨j,x,d,q3,hd⟩
def wc {b:Nat} {cur:jP} (h:w.heap[b]? =V (.cells cur e fz)):w.cell? ⟨b,o,G⟩=cur[o]? :=by simp[World.cell?,h]
def add_lit (b o j:Nat):(⟨b,o,G⟩:Addr).add j=⟨b,o+j,G⟩:=by unfold Addr.add;split<;>simp_all
def Cells.gj {id b:Nat} {cs:bf} (h:Cells g w id b o e cs) (off n:Nat) (hl:off+n<=cs.length):
  ∃vs:fM,vs.length=n/\iy g vs ((cs.drop off).take n)/\∀j v,vs[j]? =V v->w.cell? ⟨b,o+off+j,G⟩=V v:=by
 let ⟨⟨cur,h1,h0,vs,h2,h3⟩,h4⟩:=h;refine ⟨(vs.drop off).take n,?_,(h2.drop off).take n,λj v hv=> ?_⟩
 ·have:=h2.length;simp;omega
 ·rw[wc h1];rw[fw] at hv;split at hv
  ·rw[fh] at hv;rw[gL];exact h3 _ _ hv
  ·simp at hv
def Kv:∀{cs:bf},xv cs=M->∀{j:Nat} {x:SV},cs[j]? =V x->Ly x=B
 | [],_,j,x,h=>by simp at h
 |y::cs,hd,j,x,h=>by
  have hd:aS (Ly y) B (xv cs)=M:=hd;rw[cI] at hd;split at hd
  ·cases hd
  ·rename_i hu;cases j with
   |zero=>
    have e:y=x:=by simpa using h
    rw[<-e];simpa using hu
   |succ j=>exact Kv hd (by simpa using h)
def OR.gj {id b:Nat} {x:SO} {p:ll×bf} (h:OR g w id b o x) (hx:jy (V x) off n=V p) (hl:off+n<=p.2.length):
  ∃vs:fM,vs.length=n/\iy g vs ((p.2.drop off).take n)/\∀j v,vs[j]? =V v->w.cell? ⟨b,o+off+j,G⟩=V v:=by
 cases x with
 |cells e cs=>cases hx;exact Cells.gj h off n hl
 |ro cs=>
  let ⟨hd,hx⟩:=aZ (show aS (xv ((cs.drop off).take n)) (V (0,cs)) G=V p from hx);cases hx;let ⟨cur,e,fz,h1,_,h2⟩:=h;have oQ:n=0\/o+off+n<=cur.size:=by
   by_cases hn:n=0
   ·exact .inl hn
   ·right;have hl:off+n<=cs.length:=hl;have dz:off+n-1<cs.length:=by omega
    let ⟨v,a,_⟩:=h2 (off+n-1) cs[off+n-1] (by simp[dz])
    have:=(oI.1 a).1;omega
  have hlen:((cur.toList.drop (o+off)).take n).length=n:=by
   rcases oQ with h|h
   ·subst h;simp
   ·simp;omega
  have om:∀j v,((cur.toList.drop (o+off)).take n)[j]? =V v->j<n/\cur[o+off+j]? =V v:=λj v hv=>by
   rw[fw] at hv;split at hv
   ·rw[fh] at hv;exact ⟨by assumption,by simpa using hv⟩
   ·cases hv
  refine ⟨(cur.toList.drop (o+off)).take n,hlen,iy.mk (by rw[hlen,dE,jq];have hl:off+n<=cs.length:=hl;show n=min n (cs.length-off);omega) (λj v y hv hy=> ?_),λj v hv=> ?_⟩
  ·have hu:=Kv hd hy;let ⟨hj,hv⟩:=om j v hv;have hy:((cs.drop off).take n)[j]? =V y:=hy;rw[fw,aF hj,fh] at hy;let ⟨v',a,b⟩:=h2 (off+j) y hy;have e:v'=v:=by
    rw[show o+(off+j)=o+off+j by omega,hv] at a
    simpa using a.symm
   rw[<-e];exact b hu
  ·let ⟨_,hv⟩:=om j v hv;rw[wc h1];exact hv
 |_=>cases hx
def C3 {cs xs:List J} (h:off+xs.length<=cs.length) (j:Nat):
  (cs.take off++xs++cs.drop (off+xs.length))[j]? =if off<=j/\j<off+xs.length then xs[j-off]? else cs[j]? :=by
 by_cases h1:j<off
 ·rw[aC (by omega),lr,pE (by simp;omega),fw]
  simp[h1]
 ·by_cases h2:j<off+xs.length
  ·rw[aF ⟨by omega,h2⟩,pE (by simp;omega),nY (by simp;omega)]
   congr 1;simp[fu (by omega:off<=cs.length)]
  ·rw[nY (by simp;omega),fh,aC (by omega)]
   congr 1;simp[fu (by omega:off<=cs.length)]
   omega
def Mc (cs:bf) (off:Nat) (xs:bf):eJ cs off xs=cs.take off++xs++cs.drop (off+xs.length):=rfl
def Cells.store {id b:Nat} {cs:bf} (h:Cells g w id b o e cs) {us:fM} {xs:bf} (hx:iy g us xs) (hl:off+xs.length<=cs.length):
  ∃w',(storeCells ⟨b,o+off,G⟩ us 0).run P w= .ok () w'/\Cells g w' id b o e (eJ cs off xs)/\w'.heap.size=w.heap.size/\(∀k,k≠b->w'.heap[k]? =w.heap[k]?)/\w'.os=w.os/\w'.tape=w.tape/\w'.output=w.output:=by
 have hul:=hx.length;by_cases hu0:us= []
 ·subst hu0;have MN:xs= []:=uP (by simpa using hul.symm)
  subst MN;refine ⟨w,rfl,?_,rfl,λ_ _=>rfl,rfl,rfl,rfl⟩
  have:eJ cs off []=cs:=by rw[Mc];simp
  rw[this];exact h
 let ⟨⟨cur,h1,h0,vs,h2,h3⟩,h4⟩:=h;have hvl:=h2.length;have G5:0<us.length:=by cases us with|nil=>exact absurd rfl hu0|cons _ _=>simp
 have oQ:o+off+us.length<=cur.size:=by
  have dz:off+us.length-1<vs.length:=by omega
  have:=h3 (off+us.length-1) vs[off+us.length-1] (by simp[dz])
  have:=(oI.1 this).1;omega
 have rk:=run_storeCells_at P b (o+off) e us 0 cur w h1 (by omega) hx.one
 simp only[oH] at rk;refine ⟨_,rk,⟨⟨_,setRow_heap w b cur _ e _ h1,?_,vs.take off++us++vs.drop (off+us.length),?_,?_⟩,h4⟩,by simp,λk hk=>setRow_other w b k _ hk,rfl,rfl,rfl⟩
 ·simp;omega
 ·rw[Mc,<-hul];exact ((h2.take off).append hx).append (h2.drop _)
 ·intro j v hv;rw[C3 (by omega)] at hv
  have hg:(cur.toList.take (o+off)++us++cur.toList.drop (o+off+us.length)).toArray[o+j]? =if o+off<=o+j/\o+j<o+off+us.length then us[o+j-(o+off)]? else cur[o+j]? :=by
   rw[LM,C3 (by simp;omega)]
   simp
  rw[hg];split at hv
  ·rename_i hc;rw[aF (by omega)]
   have:o+j-(o+off)=j-off:=by omega
   rw[this];exact hv
  ·rename_i hc;rw[aC (by omega)]
   exact h3 j v hv
end
section
variable {E:Env} {g:Gh} {f:Hf} {w:World}
variable {P:E'} {kc:KH}
structure iz (g:Gh) (f:Hf) (w:World) (v:SV) (us:hJ) (new:Nat) (r:BL) (g':Gh) (w':World):Prop where
 val:VR g' r v
 hr:HR g' (hZ f us) w'
 fr:Fr g f w g' (hZ f us) w'
 ro:∀id,id≠new->g'.O id=g.O id
 nil:us= []->g'=g
def iz.same (h:HR g f w) {v:SV} (hv:VR g r v):iz g f w v [] new r g w:=⟨hv,h,Fr.refl _ _ _,λ_ _=>rfl,λ_=>rfl⟩
def HR.at (h:HR g f w) {id b:Nat} {o:SO} (hf:f id=V o) (hρ:g.O id=V (b,c)):b<w.heap.size/\OR g w id b c o:=by
 let ⟨b',c',q1,q2,q3⟩:=h.ob id o hf;rw[hρ] at q1;obtain ⟨rfl,rfl⟩:b=b'/\c=c':=by simpa using q1
 exact ⟨q2,q3⟩
def alG {i:TI} (hT:E7 P t i) (ha:nq i.desc=M) {vs:fM} (hl:vs.length=i.size) (ad:Addr) (h:∀j v,vs[j]? =V v->w.cell? (ad.add j)=V v):(loadVar t ad).run P w= .ok (.agg vs.toArray) w:=by
 have:=run_loadCells_list (P:=P) w ad vs h;rw[hl] at this;simp only[loadVar,B',C5 hT,ha,D',ax,pr hT,this,E2]
def alF {i:TI} (hT:E7 P t i) (ha:nq i.desc=B) (ad:Addr) (h:w.cell? ad=V v):(loadVar t ad).run P w= .ok v w:=by
 simp only[loadVar,B',C5 hT,ha,D',az,au,run_load,h]
def TE (hE:fR E g) (h:HR g f w) {x z:SV} (hu:VR g u x) (zj:rR E f t x=V z):∃r,(Instr.loadAt t u).run E.P w= .ok r w/\VR g r z:=by
 let ⟨q,h1,hl⟩:=aq zj;let ⟨i,hi,hl⟩:=aq hl;let ⟨p,hp,hl⟩:=aq hl;obtain rfl:=rN h1;have hT:=hE.ty t i hi;have hx:∃x,f q.1=V x/\jy (V x) q.2 (wide i)=V p:=by
  cases hf:f q.1 with
  |none=>rw[hf] at hp;cases hp
  |some x=>exact ⟨x,rfl,by rw[<-hf];exact hp⟩
 let ⟨x,hf,hx⟩:=hx;cases hu with
 | @ptr _ _ b o hρ=>
  have hc:OR g w q.1 b o x:=(h.at hf hρ).2;unfold jr at hl;rw[cI] at hl;split at hl
  ·rename_i ha;let ⟨hle,hl⟩:=aZ hl;have hle:=(bN _ _).1 hle;cases hl;have hw:wide i=i.size:=by unfold wide;rw[ha]
   rw[hw] at hx;let ⟨vs,v1,v2,v3⟩:=hc.gj hx hle;refine ⟨.agg vs.toArray,?_,.agg (by simpa using v2)⟩
   simp only[Instr.loadAt,ab7,B',E2,D'];exact alG hT ha v1 _ (λj v hj=>by rw[add_lit];exact v3 j v hj)
  ·rename_i ha;have dz:q.2<p.2.length:=(bK.1 hl).1;have hw:wide i=1:=by unfold wide;rw[show nq i.desc=B by simpa using ha]
   rw[hw] at hx;let ⟨vs,v1,v2,v3⟩:=hc.gj hx (by omega)
   have hz:((p.2.drop q.2).take 1)[0]? =V z:=by rw[fw,aF (by omega),fh,oH];exact hl
   let ⟨v,hv,_,hd⟩:=v2.get hz;refine ⟨v,?_,hd⟩;simp only[Instr.loadAt,ab7,B',E2,D'];exact alF hT (by simpa using ha) _ (by have:=v3 0 v hv;rwa[oH] at this)
def alo (hE:fR E g) (h:HR g f w) {x y:SV} (hu:VR g u x) (hv:VR g v y) {us:hJ} (zj:xi E f t y x=V us):
  ∃w',(Instr.storeAt t u v).run E.P w= .ok () w'/\HR g (hZ f us) w'/\Fr g f w g (hZ f us) w':=by
 let ⟨q,h1,hl⟩:=aq zj;let ⟨i,xs,p,hi,hxs,hp,hl⟩:=Dj hl;obtain rfl:=rN h1;let ⟨hc,hl⟩:=aZ hl;cases hl;rw[bJ] at hc;have hlen:=(beq_iff _ _).1 hc.1;have hle:=(bN _ _).1 hc.2;have hf:=sq hp;have hT:=hE.ty t i hi;have hcr:=hv.jy hxs;cases hu with
 | @ptr _ _ b o hρ=>
  have hcc:Cells g w q.1 b o p.1 p.2:=(h.at hf hρ).2;let ⟨w',q1,q2,q3,q4,q5,q6,q7⟩:=hcc.store (P:=E.P) hcr hle;let ⟨r1,r2⟩:=h.write (o':=.cells p.1 (eJ p.2 q.2 xs)) hf hρ q3 q4 q2 q5 q6 q7;refine ⟨w',?_,r1,r2⟩;have oQ:v.cells.size=i.size:=by rw[<-hlen,<-hcr.length];simp
  simp only[Instr.storeAt,ab7,storeVar,B',E2,D',pr hT,oQ,ne_eq,not_true,au,ab4];exact q1
def iy.eJ {vs us:fM} {cs xs:bf} (h:iy g vs cs) (k:iy g us xs):iy g (vs.take off++us++vs.drop (off+us.length)) (bL.eJ cs off xs):=by
 rw[Mc,k.length];exact ((h.take off).append k).append (h.drop _)
def Dh (place:Nat->A (Nat×Nat)):∀(parts:List (Nat×BL)) (jC:List (Nat×bf)) (vs:jP) (cs rs:bf),iy g vs.toList cs->
  parts.length=jC.length->(∀(j:Nat) (i:Nat) (v:BL) (i':Nat) (xs:bf),parts[j]? =V (i,v)->jC[j]? =V (i',xs)->i=i'/\iy g v.cells.toList xs)->oF place cs jC=V rs->
  ∃us,Instr.fill place vs parts=V us/\iy g us.toList rs
 | [],[],vs,cs,rs,hc,_,_,h=>by cases h;exact ⟨vs,rfl,hc⟩
 |(i,v)::parts,(i',xs)::jC,vs,cs,rs,hc,hl,hp,h=>by
  obtain ⟨rfl,hx⟩:=hp 0 i v i' xs rfl rfl;let ⟨q,yG,h⟩:=aq (show ay (place i) (λq=>aS (iX xs.length q.2&&kN (p8 q.1 q.2) cs.length) (oF place (bL.eJ cs q.1 xs) jC) G)=V rs from h)
  let ⟨ari,h⟩:=aZ h;rw[bJ] at ari;have h1:=(beq_iff _ _).1 ari.1;have h2:q.1+q.2<=cs.length:=(bN _ _).1 ari.2;let ⟨off,size⟩:=q;simp only at h1 h2 yG h;have hvl:v.cells.size=size:=by rw[<-h1,<-hx.length];simp
  have fg:vs.size=cs.length:=by rw[<-hc.length];simp
  have aRy:(v.cells.zipIdx.foldl (λcs (c,j)=>cs.setIfInBounds (off+j) c) vs).toList=vs.toList.take off++v.cells.toList++vs.toList.drop (off+v.cells.toList.length):=by
   rw[<-Array.foldl_toList,Array.toList_zipIdx];let ⟨f1,f2⟩:=Great.foldl_set off v.cells.toList 0 vs;apply wu;intro j;rw[C3 (by simp;omega)]
   have:=f2 j;simp only[oH] at this;rw[mC];refine this.trans ?_;simp only[Oz,mC];by_cases hj:off<=j/\j<off+v.cells.size
   ·rw[aF hj,aF ⟨hj.1,hj.2,by omega⟩]
   ·rw[aC hj,aC (by omega)]
  have lW:=hc.eJ hx (off:=off);rw[<-aRy] at lW;let ⟨us,hu1,hu2⟩:=Dh place parts jC _ _ rs lW (by simpa using hl) (λj i v i' xs ha hb=>hp (j+1) i v i' xs (by simpa using ha) (by simpa using hb)) h
  refine ⟨us,?_,hu2⟩;unfold Instr.fill;simp only[yG];rw[aC (by simp[hvl];omega)]
  exact hu1
 | [],_::_,_,_,_,_,hl,_,_=>by simp at hl
 |_::_,[],_,_,_,_,hl,_,_=>by simp at hl
def GZ {nt:Nat} {tm:Tf} {a:Act} (h:FR g nt tm a.tmps):∀(parts:List (Nat×C')) (l:List (Nat×bf)),mI tm parts=V l->
  parts.length=l.length/\∀(j:Nat) (i:Nat) (v:BL) (i':Nat) (xs:bf),(parts.map λ(i,x)=>(i,a.eval x))[j]? =V (i,v)->l[j]? =V (i',xs)->i=i'/\iy g v.cells.toList xs
 | [],l,hp=>by cases hp;simp
 |(i,x)::parts,l,hp=>by
  let ⟨v,hv,hp⟩:=aq hp;let ⟨cs,l',hc,EH,hp⟩:=bT hp;cases hp;let ⟨h1,h2⟩:=GZ h parts l' EH;refine ⟨by simp[h1],λj i1 u i2 xs ha hb=> ?_⟩
  cases j with
  |zero=>
   simp at ha hb;obtain ⟨rfl,rfl⟩:=ha;obtain ⟨rfl,rfl⟩:=hb;exact ⟨rfl,(tG h hv).jy hc⟩
  |succ j=>simp at ha hb;exact h2 j i1 u i2 xs (by simpa using ha) hb
def apt {i:TI} (h:E7 P t i):∃z,(∀w,(zeroValue t).run P w= .ok z w)/\(∀g,iy g z.cells.toList i.zero):=by
 let ⟨z,h1,h2,_⟩:=afQ h;exact ⟨z,h1,h2.1⟩
def T8 {p p':Nat->A (Nat×Nat)} (hp:∀j q,p j=V q->p' j=V q):∀(jC:List (Nat×bf)) (cs rs:bf),oF p cs jC=V rs->oF p' cs jC=V rs
 | [],cs,rs,h=>h
 |(i,xs)::jC,cs,rs,h=>by
  let ⟨q,h1,h⟩:=aq (show ay (p i) (λq=>aS (iX xs.length q.2&&kN (p8 q.1 q.2) cs.length) (oF p (bL.eJ cs q.1 xs) jC) G)=V rs from h)
  let ⟨hc,h⟩:=aZ h;show ay (p' i) (λq=>aS (iX xs.length q.2&&kN (p8 q.1 q.2) cs.length) (oF p' (bL.eJ cs q.1 xs) jC) G)=V rs
  rw[hp _ _ h1];show aS (iX xs.length q.2&&kN (p8 q.1 q.2) cs.length) (oF p' (bL.eJ cs q.1 xs) jC) G=V rs;rw[hc];exact T8 hp jC _ _ h
def QM (P:E'):∀(l:List Field),(∀f∈l,(P.info? f.type).isSome=M)->∃Eo,l.mapM (λf=>(P.info? f.type).map λi=>(f.offset,i.size))=V Eo/\
  ∀(j:Nat) (f:Field) (i:TypeInfo),l[j]? =V f->P.info? f.type=V i->Eo[j]? =V (f.offset,i.size)
 | [],_=>⟨[],rfl,by simp⟩
 |f::l,h=>by
  let ⟨Eo,h1,h2⟩:=QM P l (λx hx=>h x (by simp[hx]))
  let ⟨i,hi⟩:=OA.1 (h f (by simp))
  refine ⟨(f.offset,i.size)::Eo,by simp[WW,hi,h1],λj x ix hx BZ=> ?_⟩
  cases j with
  |zero=>simp at hx;subst hx;rw[hi] at BZ;cases BZ;rfl
  |succ j=>simp at hx;simpa using h2 j x ix hx BZ
def aaB {r:A bf} {z:SV} (h:Nv r=V z):∃cs,r=V cs/\z= .agg cs:=by
 let ⟨cs,h1,h2⟩:=aq h;cases h2;exact ⟨cs,h1,rfl⟩
def alQ (hE:fR E g) {jC:List (Nat×bf)} {x:SV} (qZ:Nr E t jC=V x) (hl:parts.size=jC.length) (hp:∀(j:Nat) (i:Nat) (v:BL) (i':Nat) (xs:bf),parts.toList[j]? =V (i,v)->jC[j]? =V (i',xs)->i=i'/\iy g v.cells.toList xs) (w:World):
  ∃v,(Instr.build t parts).run E.P w= .ok v w/\VR g v x:=by
 let ⟨i,hi,hb⟩:=aq qZ;have hT:=hE.ty t i hi;let ⟨it,zv,q1,_,_,_,q5,q6,_⟩:=hT.info;have hz:=q6.1 g;have hd:=hT.desc;generalize i.desc=D at hd hb;cases D with
 |array n e=>
  let ⟨ie,hie,hb⟩:=aq (show ay (E.ty.get e) (λie=>Nv (oF (uw ie.size) i.zero jC))=V x from hb)
  obtain ⟨rs,hf,rfl⟩:=aaB hb;let ⟨us,hu1,hu2⟩:=Dh (uw ie.size) parts.toList jC zv.cells i.zero rs hz (by simpa using hl) hp hf
  let ⟨fe,_,e1,e2,_⟩:=(hE.ty e ie hie).info;refine ⟨.agg us,run_build w t parts us ?_,.agg hu2⟩;unfold Program.built;simp only[q1,(show E.P.underlying t=V (.array n e) from hd),q5,e1,e2];exact hu1
 |struct fs=>
  let ⟨a,hu,hfs,jD⟩:=hd;obtain ⟨rs,hf,rfl⟩:=aaB (show Nv (oF (Tl E fs) i.zero jC)=V x from hb);let ⟨Eo,p1,p2⟩:=QM E.P a.toList jD;have hf':=T8 (p':=(Eo.toArray[·]?)) (λj q hq=>by
   let ⟨fl,h1,h2⟩:=aq hq;let ⟨fi,h3,h4⟩:=aq h2;cases h4;rw[<-hfs,oe] at h1;cases hj:a.toList[j]? with
   |none=>rw[hj] at h1;simp at h1
   |some fd=>
    rw[hj] at h1;simp at h1;subst h1;let ⟨ff,_,e1,e2,_⟩:=(hE.ty _ fi h3).info;have:=p2 j fd ff hj e1;rw[e2] at this;simpa using this) jC _ _ hf
  let ⟨us,hu1,hu2⟩:=Dh (Eo.toArray[·]?) parts.toList jC zv.cells i.zero rs hz (by simpa using hl) hp hf'
  refine ⟨.agg us,run_build w t parts us ?_,.agg hu2⟩;unfold Program.built;simp only[q1,hu,q5,p1];exact hu1
 |_=>cases hb
def aaj {J:Type} [Inhabited J] (zs:List J) (s:Nat) (hs:zs.length=s):∀n,(List.range (n*s)).map (λk=>zs.toArray[k % s]!)=(P' n zs).flatten
 |0=>by simp
 |n+1=>by
  have e:(n+1)*s=s+n*s:=by rw[fS];omega
  rw[e,List.range_add,kh,vC,WR,qm,<-aaj zs s hs n];congr 1
  ·apply wu;intro j;rw[oe];by_cases hj:j<s
   ·rw[List.getElem?_range hj];simp[Nat.mod_eq_of_lt hj,hs,hj]
   ·rw[oW (by simp;omega),oW (by omega)];rfl
  ·refine DZ λk _=> ?_
   simp
def amS {vs:fM} {cs:bf} (h:iy g vs cs):∀n,iy g (P' n vs).flatten (rep cs n)
 |0=>by simpa using .nil
 |n+1=>by rw[WR,qm];exact h.append (amS h n)
def FB {i:TI} (hT:E7 P t i) (h1:P.info? t=V it) (h2:it.zero=V z) (qe:mL i=M) (n:Nat):
  iy g ((Array.range (n*it.size)).map (z.cells[· % z.cells.size]!)).toList (rep i.zero n)/\it.size=i.size/\1<=i.size/\it.bytes<=65536/\z.cells.size=i.size:=by
 let ⟨it',z',q1,q2,q3,_,q5,q6,_⟩:=hT.info;rw[h1] at q1;cases q1;rw[h2] at q5;cases q5;unfold mL at qe;rw[bJ,bJ] at qe;have k1:=(bN _ _).1 qe.1;have k2:=(bN _ _).1 qe.2.1;have k3:=(beq_iff _ _).1 qe.2.2;have hzl:z.cells.size=i.size:=by rw[<-k3,<-(q6.1 g).length];simp
 refine ⟨?_,q2,k2,by omega,hzl⟩
 have:=amS (q6.1 g) n;rw[<-aaj z.cells.toList i.size (by simpa using hzl) n] at this
 rw[Array.toList_map,Array.toList_range,q2,hzl];simpa using this
def HR.row (h:HR g f w) (hn:g.O new=G) {arr:jP} {vs:fM} {cs:bf} (hw0:w0.heap=w.heap/\w0.os=w.os/\w0.tape=w.tape/\w0.output=w.output) (hw:w'=w0.alloc (.cells arr e)) (hc:iy g vs cs) (yF:∀(j:Nat) (v:BL),vs[j]? =V v->arr[j]? =V v) {v:SV} (hl:l<=arr.size) (hv:VR (g.bind new (w.heap.size,0) l e) r v):iz g f w v [(new,V (.cells e cs))] new r (g.bind new (w.heap.size,0) l e) w':=by
 have h0:HR g f w0:=⟨λid o ho=>by
   let ⟨b,c,q1,q2,q3⟩:=h.ob id o ho;exact ⟨b,c,q1,by rw[hw0.1];exact q2,q3.mono (.refl _) q1 (by rw[hw0.1])⟩,h.inj⟩
 have hs:w0.heap.size=w.heap.size:=by rw[hw0.1]
 have hcc:OR (g.bind new (w0.heap.size,0) l e) w' new w0.heap.size 0 (.cells e cs):=
  ⟨⟨arr,by rw[hw];exact heap_alloc_new w0 _,by rw[Gh.AX];omega,vs,hc.mono (Gh.H9 hn),λj v hv=>by rw[cq];exact yF j v hv⟩,Gh.DR _ _ _ _ _⟩
 let ⟨r1,r2⟩:=h0.alloc hn (o':=.cells e cs) hw hcc;rw[hs] at r1 r2;exact ⟨hv,r1,⟨r2.os.trans hw0.2.1,r2.tape.trans hw0.2.2.1,r2.output.trans hw0.2.2.2,by have:=r2.size;omega,r2.le,λb hb hm=>(r2.old b (by omega) hm).trans (by rw[hw0.1]),λb hb hm=>r2.own b (by omega) hm⟩,λid cR=>Gh.mO _ _ _ _ cR,λEG=>by cases EG⟩
def QI (hE:fR E g) (h:HR g f w) (hn:g.O new=G) {tm:Tf} (jx:FR g nt tm a.tmps) {len:Nat} {parts:Array (Nat×C')} {jC:List (Nat×bf)} (hpc:mI tm parts.toList=V jC) {v:SV} {us:hJ} (gE:qv E new t len jC=V (v,us)):
  ∃r w' g',(Instr.buildSlice t len (parts.map λ(i,x)=>(i,a.eval x))).run E.P w= .ok r w'/\iz g f w v us new r g' w':=by
 let ⟨i,hi,ho⟩:=aq gE;let ⟨e,he,ho⟩:=aq ho;let ⟨ie,hie,ho⟩:=aq ho;let ⟨hc,ho⟩:=aZ ho;let ⟨cs,hf,ho⟩:=aq ho;cases ho;rw[bJ] at hc;have hsm:=(bN _ _).1 hc.2;have hd:=(hE.ty t i hi).desc;rw[sg he] at hd;have hT:=hE.ty e ie hie;let ⟨it,z,q1,q2,_,_,q5,_⟩:=hT.info;let ⟨z1,z2,z3,z4,z5⟩:=FB (g:=g) hT q1 q5 hc.1 len;let ⟨hl,hpt⟩:=GZ jx parts.toList jC hpc;let ⟨arr,f1,f2⟩:=Dh (uw ie.size) (parts.map λ(i,x)=>(i,a.eval x)).toList jC _ _ cs z1 (by simpa using hl) (λj i v i' xs h1 h2=>hpt j i v i' xs (by simpa using h1) h2) hf
 have hv:VR (g.bind new (w.heap.size,0) 0 e) (.slice (V ⟨w.heap.size,0,G⟩) len len) (.sl new 0 len (.k len)):=.sl (id:=new) (off:=0) (o:=0) (b:=w.heap.size) (cap:=.k len) (Gh.kn _ _ _ _ _) (cS _) (λm hm=>by cases hm;rfl) (λe hm=>by cases hm)
 refine ⟨_,_,_,?_,h.row hn (w0:=w) (w':=w.alloc (.cells arr e)) ⟨rfl,rfl,rfl,rfl⟩ rfl f2 (λj v hv=>by simpa using hv) (ru _) hv⟩
 by_cases h0:len=0
 ·subst h0;have hcs:jC= []:=by
   cases jC with
   |nil=>rfl
   |cons p ps=>
    let ⟨q,r1,r2⟩:=aq (show ay (uw ie.size p.1) (λq=>aS (iX p.2.length q.2&&kN (p8 q.1 q.2) (rep ie.zero 0).length) (oF (uw ie.size) (bL.eJ (rep ie.zero 0) q.1 p.2) ps) G)=V cs from hf)
    cases r1;let ⟨r3,_⟩:=aZ r2;rw[bJ] at r3;have:=(bN _ _).1 r3.2;simp[rep] at this;omega
  subst hcs;have hp0:parts= #[]:=by apply Bt;exact uP (by simpa using hl)
  subst hp0;simp at f1;simp[Instr.fill] at f1;simp[Instr.buildSlice,run_underlying (show E.P.underlying t=V (.slice e) from hd),sizeOf,typeInfo,q1,Instr.fill,newRow];rw[<-f1];congr 2;apply Bt;simp
 ·have G5:¬len*it.size=0:=by
   rw[z2];intro he;rcases Nat.mul_eq_zero.1 he with he|he<;>omega
  have hsm':¬len*it.size>2 ^ 24:=by rw[z2];have:len*ie.size<=16777216:=hsm;omega
  refine run_buildSlice w t e len _ _ it z hd q1 q5 hsm' G5 ?_;rw[z2] at f1 ⊢;exact f1
def alD (hE:fR E g) (h:HR g f w) (hn:g.O new=G) {v:SV} {us:hJ} (gE:HY E new t l c=V (v,us)):
  ∃r w' g',(Instr.makeSlice t (.int kl (.ofNat l)) (.int kc (.ofNat c))).run E.P w= .ok r w'/\iz g f w v us new r g' w':=by
 let ⟨i,hi,ho⟩:=aq gE;let ⟨e,he,ho⟩:=aq ho;let ⟨ie,hie,ho⟩:=aq ho;let ⟨hc,ho⟩:=aZ ho;cases ho;rw[bJ,bJ] at hc;have h1:=(bN _ _).1 hc.1;have h2:=(bN _ _).1 hc.2.1;have hd:=(hE.ty t i hi).desc;rw[sg he] at hd;have hT:=hE.ty e ie hie;let ⟨it,z,q1,q2,_,_,q5,_⟩:=hT.info;let ⟨z1,z2,z3,z4,z5⟩:=FB (g:=g) hT q1 q5 hc.2.2 c;have hb:it.bytes*c<=65536*1000000:=Nat.mul_le_mul z4 h2;have rk:=run_make w t e it z hd q1 q5 kl kc (.ofNat l) (.ofNat c) (by simp) (by simp;omega) (by
  have:((it.bytes*c:Nat):Int)<=281474976710656:=by omega
  simpa using this) (by simp;omega)
 simp only[Hw,Hz] at rk;have hv:VR (g.bind new (w.heap.size,0) 0 e) (.slice (V ⟨w.heap.size,0,G⟩) l c) (.sl new 0 l (.k c)):=.sl (id:=new) (off:=0) (o:=0) (b:=w.heap.size) (cap:=.k c) (Gh.kn _ _ _ _ _) h1 (λm hm=>by cases hm;rfl) (λe hm=>by cases hm)
 exact ⟨_,_,_,rk,h.row hn (w0:=w) ⟨rfl,rfl,rfl,rfl⟩ rfl z1 (λj v hv=>by rw[mC] at hv;exact hv) (ru _) hv⟩
end
section
variable {E:Env} {g:Gh} {f:Hf} {w:World}
variable {P:E'} {y:Nat} {hi:A C'}
def Ro (hE:fR E g) (h:HR g f w) {s:ll} {x v:SV} (hu:VR g u x) {us:hJ} (gE:sj E s k x=V (v,us)):
  ∃r,(Instr.fieldAt s u k).run E.P w= .ok r w/\iz g f w v us new r g w:=by
 let ⟨i,p,hi,hp,ho⟩:=bT gE;let ⟨fs,hfs,ho⟩:=aq ho;let ⟨fl,EK,ho⟩:=aq ho;let ⟨fi,hfi,ho⟩:=aq ho;let ⟨hc,ho⟩:=aZ ho;cases ho;obtain rfl:=rN hp;have hd:=(hE.ty s i hi).desc;rw[L8 hfs] at hd;let ⟨a,uD,ha,jD⟩:=hd;subst ha;rw[oe] at EK;cases hj:a.toList[k]? with
 |none=>rw[hj] at EK;simp at EK
 |some fd=>
  rw[hj] at EK;simp at EK;subst EK;have hj':a[k]? =V fd:=by simpa using hj
  have hs:=pr (hE.ty _ fi hfi) w;have h1:=(bN _ _).1 hc;have cR:¬fi.size=0:=by omega
  cases hu with
  | @ptr _ _ b o hρ=>
   refine ⟨.pointer (V ⟨b,o+(p.2+fd.offset),G⟩),?_,iz.same h (.ptr hρ)⟩;simp only[Instr.fieldAt,B',run_underlying uD,D',hj',ab7,E2,fieldPlace,hs,aC cR,ab4,add_lit,gL]
def agu (hE:fR E g) (h:HR g f w) {x v:SV} (hu:VR g u x) {us:hJ} (gE:DK E t k x=V (v,us)):
  ∃r,(Instr.field t u k).run E.P w= .ok r w/\iz g f w v us new r g w:=by
 let ⟨i,cs,hi,hp,ho⟩:=bT gE;let ⟨fs,hfs,ho⟩:=aq ho;let ⟨fl,EK,ho⟩:=aq ho;let ⟨fi,hfi,ho⟩:=aq ho;let ⟨z,hz,ho⟩:=aq ho;cases ho;obtain rfl:=Dl hp;have hd:=(hE.ty t i hi).desc;rw[L8 hfs] at hd;let ⟨a,uD,ha,jD⟩:=hd;subst ha;rw[oe] at EK;cases hj:a.toList[k]? with
 |none=>rw[hj] at EK;simp at EK
 |some fd=>
  rw[hj] at EK;simp at EK;subst EK;have hj':a[k]? =V fd:=by simpa using hj
  cases hu with
  |agg hc=>
   let ⟨r,r1,r2⟩:=C7 (hE.ty _ fi hfi) hz hc w;refine ⟨r,?_,iz.same h r2⟩;simp only[Instr.field,B',run_underlying uD,D',hj',asAgg,E2,r1]
def agt (hE:fR E g) (h:HR g f w) {x v:SV} (hu:VR g u x) {us:hJ} (gE:AF E t k x=V (v,us)):
  ∃r,(Instr.index t u (.int kk (.ofNat k))).run E.P w= .ok r w/\iz g f w v us new r g w:=by
 let ⟨i,hi,ho⟩:=aq gE;have hd:=(hE.ty t i hi).desc;generalize i.desc=D at hd ho;cases D with
 |string=>
  let ⟨s,hs,ho⟩:=aq (show ay (strOf x) (λs=>ay (s.data.toList[k]?) λb=>V (SV.int .u8 (.lit (.ofNat b.toNat)),([]:hJ)))=V (v,us) from ho)
  let ⟨b,hb,ho⟩:=aq ho;cases ho;obtain rfl:=rJ hs;cases hu;refine ⟨.int .u8 b.toNat,?_,iz.same h (.int _ _ (by simp[SI.ev]))⟩
  have dz:k<s.data.toList.length:=(bK.1 hb).1;have hlt':k<s.size:=by simpa using dz
  have om:s[k]? =V b:=by
   rw[getElem?_pos s k hlt'];have:s.data.toList[k]=b:=(bK.1 hb).2;rw[<-this];rfl
  have h0:(0:Int)<=ab1 k:=by simp
  simp only[Instr.index,asIntOf,B',E2,D',run_underlying (show E.P.underlying t=V .string from hd),aF h0];simp only[Hw,Hz,om,E2]
 |array n e=>
  let ⟨cs,ie,hcs,hie,ho⟩:=bT (show cj (PF x) (E.ty.get e) (λcs ie=>aS (kN (J' k) n) (same (jr ie cs (A' k ie.size))) G)=V (v,us) from ho)
  let ⟨hc,ho⟩:=aZ ho;let ⟨z,hz,ho⟩:=aq ho;cases ho;obtain rfl:=Dl hcs;have dz:k+1<=n:=(bN _ _).1 hc;cases hu with
  |agg hcc=>
   let ⟨r,r1,r2⟩:=C7 (hE.ty _ ie hie) hz hcc w;refine ⟨r,?_,iz.same h r2⟩;have jD:(0:Int)<=ab1 k/\ab1 k<(n:Int):=⟨by simp,by simp;omega⟩
   simp only[Instr.index,asIntOf,B',E2,D',run_underlying (show E.P.underlying t=V (.array n e) from hd),aF jD,pr (hE.ty _ ie hie)];exact r1
 |_=>cases ho
def TU (hE:fR E g) {x z:SV} (hu:VR g u x) (gE:rS E t x k=V z):
  ∃r,(Instr.indexAt t u (.int kk (.ofNat k))).run E.P w= .ok r w/\VR g r z:=by
 let ⟨i,hi,ho⟩:=aq gE;have hd:=(hE.ty t i hi).desc;generalize i.desc=D at hd ho;cases D with
 |slice e=>
  let ⟨q,hq,ho⟩:=aq (show ay (aAN x) (λq=>DN E e q.1 q.2.1 q.2.2.1 k)=V z from ho)
  let ⟨hc,ho⟩:=aZ ho;let ⟨ie,hie,ho⟩:=aq ho;cases ho;obtain rfl:=avQ hq;have dz:k+1<=q.2.2.1:=(bN _ _).1 hc;cases hu with
  | @sl _ _ _ b o c _ hρ hn jH vW=>
   refine ⟨.pointer (V ⟨b,o+(q.2.1+k*ie.size),G⟩),?_,.ptr hρ⟩;have jD:(0:Int)<=ab1 k/\ab1 k<(q.2.2.1:Int):=⟨by simp,by simp;omega⟩
   simp only[Instr.indexAt,asIntOf,B',E2,D',run_underlying (show E.P.underlying t=V (.slice e) from hd),aF jD,pr (hE.ty _ ie hie),ab4,add_lit];simp[gL]
 |array n e=>
  let ⟨q,hq,ho⟩:=aq (show ay (xD x) (λq=>DN E e q.1 q.2 n k)=V z from ho)
  let ⟨hc,ho⟩:=aZ ho;let ⟨ie,hie,ho⟩:=aq ho;cases ho;obtain rfl:=rN hq;have dz:k+1<=n:=(bN _ _).1 hc;cases hu with
  | @ptr _ _ b o hρ=>
   refine ⟨.pointer (V ⟨b,o+(q.2+k*ie.size),G⟩),?_,.ptr hρ⟩;have jD:(0:Int)<=ab1 k/\ab1 k<(n:Int):=⟨by simp,by simp;omega⟩
   simp only[Instr.indexAt,asIntOf,B',E2,D',run_underlying (show E.P.underlying t=V (.array n e) from hd),ab7,aF jD,pr (hE.ty _ ie hie),ab4,add_lit];simp[gL]
 |_=>cases ho
def run_sliceBound {k:KH} (h1:n<=y) (c:BoundsCode):(Instr.sliceBound (.int k (.ofNat n)) y c).run P w= .ok n w:=by
 have:(0:Int)<=ab1 n/\ab1 n<=(y:Int):=⟨by simp,by simp;omega⟩
 simp only[Instr.sliceBound,asIntOf,B',E2,D',ab4];rw[aF this];rfl
def Bf {tm:Tf} (jx:FR g nt tm a.tmps) {x:A C'} {r:cB} (h:km tm x=V r):
  (x=G/\r=G)\/∃y k n,x=V y/\r=V n/\a.eval y= .int k (.ofNat n):=by
 cases x with
 |none=>cases h;exact .inl ⟨rfl,rfl⟩
 |some y=>
  let ⟨v,hv,h⟩:=aq h;let ⟨n,hn,h⟩:=aq h;cases h;obtain ⟨k,rfl⟩:=wK hn;have:=tG jx hv;generalize hu:a.eval y=u at this;cases this with
  |int _ _ e=>exact .inr ⟨y,k,n,rfl,rfl,by rw[hu,e];rfl⟩
def rL {tm:Tf} (jx:FR g nt tm a.tmps) {mx:A C'} {l u m:cB} (hl:km tm lo=V l) (hu:km tm hi=V u) (hm:km tm mx=V m) (CT:Bool) (len cap:Nat) (h1:l.getD 0<=u.getD len) (h2:u.getD len<=m.getD cap) (h3:m.getD cap<=cap) (h4:m≠G->u≠G):
  (Instr.sliceBounds CT len cap (lo.map a.eval) (hi.map a.eval) (mx.map a.eval)).run P w= .ok (l.getD 0,u.getD len,m.getD cap) w:=by
 rcases Bf jx hl with ⟨rfl,rfl⟩|⟨y1,k1,n1,rfl,rfl,e1⟩<;>rcases Bf jx hu with ⟨rfl,rfl⟩|⟨y2,k2,n2,rfl,rfl,e2⟩<;>rcases Bf jx hm with ⟨rfl,rfl⟩|⟨y3,k3,n3,rfl,rfl,e3⟩<;>
  simp only[Af,Hx] at h1 h2 h3<;>
  first
   |exact absurd rfl (h4 (Option.some_ne_none _))
   |(
    simp only[Instr.sliceBounds,LP,Ol,B',E2,D',Af,Hx,Option.isSome_some,Option.isSome_none]
    try simp only[e3,run_sliceBound (P:=P) (w:=w) (k:=k3) h3,D']
    try simp only[e2,run_sliceBound (P:=P) (w:=w) (k:=k2) h2,D']
    try simp only[e1,run_sliceBound (P:=P) (w:=w) (k:=k1) h1,D'])
def Bs {m:cB} (h:oV m=M):m.getD 0=0:=by
 cases m with
 |none=>rfl
 |some n=>exact (beq_iff _ _).1 h
def abn (a:Addr):a.add 0=a:=by unfold Addr.add;split<;>simp_all
def aod {id h b:Nat} {size:Nat} {m:Cp} (hρ:g.O id=V (b,o)) (h1:l<=h) (h2:h<=f8) (hm:∀k,m= .k k->f8=k) (hz:∀e,m= .u e->g.et id=e/\size=g.sz e/\off+f8*size<=g.lim id):
  VR g (.slice (V (if f8=l then ⟨b,o+off,G⟩ else (⟨b,o+off,G⟩:Addr).add (l*size))) (h-l) (f8-l)) (AS id off l h size m):=by
 by_cases h0:l=0
 ·subst h0;have e1:AS id off 0 h size m= .sl id off h m:=rfl;have e2:(if f8=0 then (⟨b,o+off,G⟩:Addr) else (⟨b,o+off,G⟩:Addr).add (0*size))=⟨b,o+off,G⟩:=by
   split
   ·rfl
   ·rw[ng,abn]
  rw[e1,e2];exact .sl hρ (by omega) (λk hk=>by rw[hm k hk];omega) (λe hn=>by let ⟨q0,q1,q2⟩:=hz e hn;rw[<-q1];exact ⟨q0,q2⟩)
 ·have e0:iX l 0=B:=by rw[beq_eq];simpa using h0
  by_cases dz:l+1<=h
  ·have e1:AS id off l h size m= .sl id (off+l*size) (h-l) (Ai m l):=by
    unfold AS;rw[e0,show kN (J' l) h=M from (bN _ _).2 dz];rfl
   rw[e1,aC (by omega),add_lit,gL]
   refine .sl hρ (by omega) (λk hk=> ?_) (λe hk=> ?_)
   ·cases m with
    |u e'=>cases hk
    |k c=>cases hk;rw[hm c rfl];rfl
   ·cases m with
    |k c=>cases hk
    |u e'=>
     cases hk;let ⟨q0,q1,q2⟩:=hz _ rfl;rw[<-q1];refine ⟨q0,?_⟩;have:l*size+(f8-l)*size=f8*size:=by rw[<-fS];congr 1;omega
     show off+l*size+(f8-l)*size<=g.lim id;omega
  ·have e1:AS id off l h size m= .sle:=by
    unfold AS;rw[e0,show kN (J' l) h=B from by rw[ble_eq];simpa using dz]
   rw[e1];have:h-l=0:=by omega
   rw[this];exact .sle
def Mg {id:Nat} {cap:Cp} {lo hi mx:cB} {z:SV} (h:wG E e id off n cap lo hi mx=V z):
  ∃ie,E.ty.get e=V ie/\lo.getD 0<=hi.getD n/\hi.getD n<=reach cap n/\(∀m,mx=V m->hi.getD n<=m/\m<=reach cap n)/\(∀e',cap= .u e'->e'=e)/\z=AS id off (lo.getD 0) (hi.getD n) ie.size (orC mx cap):=by
 let ⟨ie,hie,h⟩:=aq h;let ⟨hc,h⟩:=aZ h;cases h;rw[bJ,bJ,bJ] at hc;refine ⟨ie,hie,(bN _ _).1 hc.2.1,(bN _ _).1 hc.2.2.1,λm hm=> ?_,λe' he=>by subst he;exact (beq_iff _ _).1 hc.1,rfl⟩
 subst hm;have:=hc.2.2.2;simp only[Pc,bJ] at this;exact ⟨(bN _ _).1 this.1,(bN _ _).1 this.2⟩
def alr (hE:fR E g) {tm:Tf} (jx:FR g nt tm a.tmps) {x z:SV} (hv:VR g v x) {mx:A C'} {l u m:cB} (hl:km tm lo=V l) (hu:km tm hi=V u) (hm:km tm mx=V m) (gE:y6 E t x l u m=V z):
  ∃r,(ac0 t v (lo.map a.eval) (hi.map a.eval) (mx.map a.eval)).run E.P w= .ok r w/\VR g r z:=by
 let ⟨i,qD,ho⟩:=aq gE;let ⟨hmh,ho⟩:=aZ ho;have h4:m≠G->u≠G:=by
  intro hm hu;subst hu;cases m with
  |none=>exact hm rfl
  |some k=>simp[aEC] at hmh
 have hd:=(hE.ty t i qD).desc;generalize i.desc=D at hd ho;cases D with
 |string=>
  let ⟨s,hs,ho⟩:=aq (show ay (strOf x) (λs=>afK s l u m)=V z from ho)
  obtain rfl:=rJ hs;cases hv;cases m with
  |some _=>cases ho
  |none=>
   let ⟨hc,ho⟩:=aZ (show aS (kN (l.getD 0) (u.getD s.size)&&kN (u.getD s.size) s.size) (V (SV.str (s.extract (l.getD 0) (u.getD s.size)))) G=V z from ho);cases ho;rw[bJ] at hc;have hmx:mx=G:=by
    rcases Bf jx hm with ⟨rfl,_⟩|⟨_,_,_,_,hx,_⟩
    ·rfl
    ·simp at hx
   subst hmx;have hb:=rL (P:=E.P) (w:=w) jx hl hu (mx:=G) (m:=G) rfl B s.size s.size ((bN _ _).1 hc.1) ((bN _ _).1 hc.2) (cS _) (by simp)
   refine ⟨.string (s.extract (l.getD 0) (u.getD s.size)),?_,.str _⟩;simp only[Ol] at hb;simp only[ac0,B',run_underlying (show E.P.underlying t=V .string from hd),D',Instr.slice,Ol,Option.isSome_none,az,au,ab4,E2,hb]
 |slice e=>
  let ⟨ie0,hie0,ho⟩:=aq (show ay (E.ty.get e) (λ_=>Ef x E e l u m)=V z from ho)
  cases hv with
  | @sl id off n b o c cap hρ hn jH vW=>
   obtain ⟨ie,hie,c1,c2,c3,c4,rfl⟩:=Mg (show wG E e id off n cap l u m=V z from ho);have hcc:reach cap n<=c:=by
    cases cap with
    |u e'=>exact hn
    |k m=>rw[jH m rfl];exact cS _
   have hb:=rL (P:=E.P) (w:=w) jx hl hu hm M n c c1 (by
    cases m with
    |none=>simp;omega
    |some k=>exact (c3 k rfl).1) (by
    cases m with
    |none=>simp
    |some k=>simp;have:=(c3 k rfl).2;omega) h4
   refine ⟨_,?_,aod (f8:=m.getD c) hρ c1 (by
    cases m with
    |none=>simp;omega
    |some k=>exact (c3 k rfl).1) (λk hk=> ?_) (λe' hk=> ?_)⟩
   ·simp only[ac0,B',run_underlying (show E.P.underlying t=V (.slice e) from hd),D',Instr.slice,hb,pr (hE.ty _ ie hie),E2];congr 2;split<;>rfl
   ·cases m with
    |some k'=>cases hk;rfl
    |none=>exact jH k hk
   ·cases m with
    |some k'=>cases hk
    |none=>
     have hk:cap= .u e':=hk;let ⟨l1,l2⟩:=vW e' hk;have he:=c4 e' hk;subst he;have oQ:=hE.size hie;exact ⟨l1,oQ.symm,by rw[<-oQ];exact l2⟩
  | @sle ad c=>
   let ⟨hc,ho⟩:=aZ (show aS (oV l&&(oV u&&m.isNone)) (V SV.sle) G=V z from ho);cases ho;rw[bJ,bJ] at hc;have z1:=Bs hc.1;have z2:=Bs hc.2.1;have hm0:m=G:=by cases m with|none=>rfl|some k=>simp at hc
   subst hm0;have hb:=rL (P:=E.P) (w:=w) jx hl hu hm M 0 c (by rw[z1];omega) (by rw[z2];simp) (cS _) h4
   rw[z1,z2] at hb;refine ⟨.slice (if c=0 then ad else ad.map (·.add (0*ie0.size))) (0-0) (c-0),?_,.sle⟩
   simp only[ac0,B',run_underlying (show E.P.underlying t=V (.slice e) from hd),D',Instr.slice,hb,pr (hE.ty _ ie0 hie0),E2,Hx]
  |cr=>
   let ⟨hc,ho⟩:=aZ (show aS (oV l&&(oV u&&oV m)) (V SV.cr) G=V z from ho);cases ho;rw[bJ,bJ] at hc;have z1:=Bs hc.1;have z2:=Bs hc.2.1;have z3:=Bs hc.2.2;have hb:=rL (P:=E.P) (w:=w) jx hl hu hm M 0 0 (by rw[z1];omega) (by rw[z2];omega) (by rw[z3];omega) h4
   rw[z1,z2,z3] at hb;refine ⟨.slice G 0 0,?_,.cr⟩;simp only[ac0,B',run_underlying (show E.P.underlying t=V (.slice e) from hd),D',Instr.slice,hb,pr (hE.ty _ ie0 hie0),E2];simp
  |_=>cases ho
 |array n e=>
  let ⟨q,hq,ho⟩:=aq (show ay (xD x) (λq=>wG E e q.1 q.2 n (.k n) l u m)=V z from ho)
  obtain rfl:=rN hq;obtain ⟨ie,hie,c1,c2,c3,c4,rfl⟩:=Mg ho;have c2:u.getD n<=n:=c2;have c3:∀k,m=V k->u.getD n<=k/\k<=n:=c3;cases hv with
  | @ptr _ _ b o hρ=>
   have hb:=rL (P:=E.P) (w:=w) jx hl hu hm B n n c1 (by
    cases m with
    |none=>simpa using c2
    |some k=>exact (c3 k rfl).1) (by
    cases m with
    |none=>simp
    |some k=>simpa using (c3 k rfl).2) h4
   refine ⟨_,?_,aod (f8:=m.getD n) hρ c1 (by
    cases m with
    |none=>simpa using c2
    |some k=>exact (c3 k rfl).1) (λk hk=> ?_) (λe' hk=>by cases m<;>cases hk)⟩
   ·simp only[ac0,B',run_underlying (show E.P.underlying t=V (.array n e) from hd),D',ab7,E2,hb,pr (hE.ty _ ie hie)]
   ·cases m with
    |some k'=>cases hk;rfl
    |none=>cases hk;rfl
 |_=>cases ho
end
section
variable {E:Env} {g:Gh} {f:Hf} {w:World}
variable {P:E'} {u2:BL}
def zu {id:Nat} {old:bf} (h:ln f id off n=V old):∃x e cs,f id=V x/\jy (V x) off n=V (e,cs)/\off+n<=cs.length/\old=(cs.drop off).take n:=by
 let ⟨p,hp,h⟩:=aq h;let ⟨hc,h⟩:=aZ h;cases h;cases hf:f id with
 |none=>rw[hf] at hp;cases hp
 |some x=>exact ⟨x,p.1,p.2,rfl,by rw[<-hf];exact hp,(bN _ _).1 hc,rfl⟩
def QY (s:Z):iy g (byteCells s) (Iw s):=by
 unfold byteCells Iw;generalize s.data.toList=l;induction l with
 |nil=>exact .nil
 |cons b l ih=>exact .cons rfl (.int _ _ (by simp[SI.ev])) ih
def aAJ {size:Nat} (hk:(∃e',P.underlying tx=V (.slice e'))\/P.underlying tx=V .string) (h:HR g f w) {x:SV} (hu:VR g u x) {q:Nat×bf} (hs:oZ f size x=V q):
  ∃news,Src P size tx u q.1 news w/\iy g news q.2:=by
 have row:BH f size x=V q->∃news,Src P size tx u q.1 news w/\iy g news q.2:=by
  intro hs;let ⟨n,xs,h1,h2,h3⟩:=bT hs;cases h3;rcases FU h1 with ⟨id,off,c,rfl⟩|⟨rfl,rfl⟩|⟨rfl,rfl⟩
  ·cases hu with
   | @sl _ _ _ b o c' _ hρ hn jH vW=>
    obtain ⟨x0,e,cs,q1,q1',q2,rfl⟩:=zu (show ln f id off (n*size)=V xs from h2);let ⟨vs,v1,v2,v3⟩:=OR.gj (h.at q1 hρ).2 q1' q2;have vu:∀(j:Nat) (v:BL),vs[j]? =V v->w.cell? ((⟨b,o+off,G⟩:Addr).add j)=V v:=λj v hv=>by rw[add_lit];exact v3 j v hv
    exact ⟨vs,⟨hk,λ_=>rfl,run_firstCells_some w size n _ n c' vs v1 vu,run_firstCells_some w.drew size n _ n c' vs v1 (by simpa using vu),v1,v2.one⟩,v2⟩
  ·cases hu;cases h2;exact ⟨[],⟨hk,λ_=>rfl,run_firstCells_none w size 0 0 0,run_firstCells_none w.drew size 0 0 0,by simp,λ_ h=>by cases h⟩,.nil⟩
  ·cases hu with
   | @sle ad c=>
    cases h2;refine ⟨[],⟨hk,λ_=>rfl,?_,?_,by simp,λ_ h=>by cases h⟩,.nil⟩<;>
     (cases ad with
      |none=>exact run_firstCells_none _ size 0 0 c
      |some a=>exact run_firstCells_some _ size 0 a 0 c [] (by simp) (by simp))
 cases hu with
 |str s=>
  let ⟨h1,h2⟩:=aZ (show aS (iX size 1) (V (s.size,Iw s)) G=V q from hs);cases h2;have:=(beq_iff _ _).1 h1;subst this;refine ⟨byteCells s,⟨hk,λ_=>rfl,firstCells_string s w,firstCells_string s w.drew,by rw[byteCells_length,Hs],λu hu=>by
   obtain ⟨_,_,rfl⟩:=dJ.1 hu;rfl⟩,QY s⟩
 |_=>exact row hs
def F5 (hE:fR E g) (h:HR g f w) (hn:g.O new=G) {ie:TI} (ht:E.P.underlying t=V (.slice e)) (hie:E.ty.get e=V ie) (qe:mL ie=M) {m:Nat} {olds news:fM} {old xs:bf} (ho:iy g olds old) (hol:olds.length=n*ie.size) (hold:(ab5 ie.size n (.slice base n c)).run E.P w.drew= .ok olds.toArray w.drew) (hs:Src E.P ie.size tx u m news w) (hx:iy g news xs) (hgr:c<n+m) (h1:n<=1000000) (h2:m<=1000000):
  ∃r w' g',(aa7 #[t,tx] ty #[.slice base n c,u]).run E.P w= .ok r w'/\iz g f w (.sl new 0 (n+m) (.u e)) [(new,V (.cells e (old++xs)))] new r g' w':=by
 have hT:=hE.ty e ie hie;let ⟨it,z,q1,q2,_,_,q5,_⟩:=hT.info;let ⟨_,_,z3,z4,z5⟩:=FB (g:=g) hT q1 q5 qe 0;have rk:=run_append_grow_src (P:=E.P) w t tx ty e it z ht q1 q5 base n c olds (by rw[q2];exact hold) u m news (by rw[q2];exact hs) hgr (by omega) (growslice_fits hgr (by
  have:(n+m)*it.bytes<=2000000*65536:=Nat.mul_le_mul (by omega) z4
  omega))
 have hge:=grownCap_ge w (n+m) c e;have Ab:=hs.newsLen;refine ⟨_,_,_,rk,h.row hn (w0:=w.drew) (l:=grownCap w (n+m) c e*ie.size) ⟨rfl,rfl,rfl,rfl⟩ rfl (ho.append hx) (λj v hv=> ?_) ?_ ?_⟩
 ·rw[LN,LM]
  ·exact hv
  ·simpa using (bK.1 hv).1
 ·simp only[Array.size_append,List.size_toArray,gf,size_zeroCells,z5,hol,Ab];rw[<-fS,<-fS];exact jn _ (by omega)
 ·exact .sl (id:=new) (off:=0) (o:=0) (b:=w.heap.size) (cap:=.u e) (Gh.kn _ _ _ _ _) hge (λk hk=>by cases hk) (λe' he=>by
   cases he;refine ⟨Gh.DR _ _ _ _ _,?_⟩;rw[Gh.AX];show 0+grownCap w (n+m) c e*g.sz e<=_;rw[hE.size hie];omega)
def Hg (ht:P.underlying t=V (.slice e)) (hi:P.info? e=V it) (vV:n<=c) (hs:Src P it.size tx u 0 [] w):
  (aa7 #[t,tx] ty #[.slice base n c,u]).run P w= .ok (.slice base n c) w:=by
 have hc:=hs.cells;rcases hs.kind with ⟨e',hk⟩|hk<;>cases base<;>simp[aa7,run_underlying ht,run_underlying hk,sizeOf,typeInfo,hi,hs.len,vV,hc,storeCells]
def QZ (ht:P.underlying t=V (.slice e)) (hi:P.info? e=V it) {b m:Nat} {news:fM} (hs:Src P it.size tx u m news w) (nT:n+m<=c) (lV:(storeCells ⟨b,o+n*it.size,G⟩ news 0).run P w= .ok () w'):
  (aa7 #[t,tx] ty #[.slice (V ⟨b,o,G⟩) n c,u]).run P w= .ok (.slice (V ⟨b,o,G⟩) (n+m) c) w':=by
 rcases hs.kind with ⟨e',hk⟩|hk<;>simp[aa7,run_underlying ht,run_underlying hk,sizeOf,typeInfo,hi,hs.len,nT,hs.cells,add_lit,lV]
def aJh (hE:fR E g) {ix:TI} (BZ:E.ty.get tx=V ix) (hr:Az ix.desc=M):(∃e',E.P.underlying tx=V (.slice e'))\/E.P.underlying tx=V .string:=by
 have hd:=(hE.ty tx ix BZ).desc;generalize ix.desc=D at hd hr;cases D<;>simp[Az] at hr
 ·exact .inr hd
 ·exact .inl ⟨_,hd⟩
def ayt {x:SV} (h:MG x=M):(∃i o n c,x= .sl i o n c)\/x= .cr\/x= .sle:=by
 cases x<;>first|exact .inl ⟨_,_,_,_,rfl⟩|exact .inr (.inl rfl)|exact .inr (.inr rfl)|cases h
def iz.kill (h:HR g f w) {id:Nat} {v:SV} {us:hJ} {g':Gh} (hp:iz g (jB f (id,G)) w v us new r g' w'):iz g f w v ((id,G)::us) new r g' w':=
 ⟨hp.val,hp.hr,(h.kill id).2.trans hp.fr,hp.ro,λEG=>by cases EG⟩
def aia (hE:fR E g) (h:HR g f w) (hn:g.O new=G) {ix:TI} {s x:SV} (h1:VR g u1 s) (h2:VR g u2 x) (BZ:E.ty.get tx=V ix) (CC:Az ix.desc=M) {v:SV} {us:hJ} (gE:mP E f new t s x=V (v,us)):∃r w' g',(aa7 #[t,tx] ty #[u1,u2]).run E.P w= .ok r w'/\iz g f w v us new r g' w':=by
 let ⟨i,hi,ho⟩:=aq gE;let ⟨e,he,ho⟩:=aq ho;let ⟨ie,hie,ho⟩:=aq (show ay (E.ty.get e) _=V (v,us) from ho);let ⟨qe,ho⟩:=aZ ho;let ⟨q,hq,ho⟩:=aq ho;let ⟨hq1,ho⟩:=aZ ho;have hq1:q.1<=1000000:=(bN _ _).1 hq1;have ht:=(hE.ty t i hi).desc;rw[sg he] at ht;have ht:E.P.underlying t=V (.slice e):=ht;have hT:=hE.ty e ie hie;let ⟨it,z,q1,q2,_,_,q5,_⟩:=hT.info;let ⟨_,_,z3,z4,z5⟩:=FB (g:=g) hT q1 q5 qe 0;let ⟨news,hs,hx⟩:=aAJ (aJh hE BZ CC) h h2 hq;rw[cI] at ho;split at ho
 ·rename_i h0;have h0:=(beq_iff _ _).1 h0;let ⟨Ig,ho⟩:=aZ ho;cases ho;have Ab:=hs.newsLen;rw[h0] at hs Ab;have:news= []:=uP (by simpa using Ab)
  subst this;rw[<-q2] at hs;rcases ayt Ig with ⟨id,off,n,cp,rfl⟩|rfl|rfl
  ·cases h1 with
   |sl hρ vV jH vW=>exact ⟨_,w,g,Hg ht q1 vV hs,iz.same h (.sl hρ vV jH vW)⟩
  ·cases h1;exact ⟨_,w,g,Hg ht q1 (cS _) hs,iz.same h .cr⟩
  ·cases h1;exact ⟨_,w,g,Hg ht q1 (ru _) hs,iz.same h .sle⟩
 ·rename_i h0;have h0:q.1≠0:=λe=>h0 ((beq_iff _ _).2 e)
  cases h1 with
  |cr=>
   cases (show V (SV.sl new 0 q.1 (.u e),[(new,V (SO.cells e q.2))])=V (v,us) from ho);have:=F5 hE h hn (ty:=ty) (n:=0) (c:=0) (base:=G) (olds:= []) (old:= []) ht hie qe .nil (by simp) (run_firstCells_none _ _ _ _ _) hs hx (by omega) (by omega) hq1
   simpa using this
  | @sl id off n b o c cap hρ vV jH vW=>
   let ⟨Ac,ho⟩:=aZ (show aS (kN n 1000000) (aS (abM n q.1 cap) (ay (ln f id off (A' n ie.size)) λold=>C9 new e (p8 n q.1) (old++q.2) []) (cj (mM (f id)) (ln f id off (A' n ie.size)) λp old=>aca new e ie.size id off n cap q.1 q.2 p old)) G=V (v,us) from ho)
   have Ac:n<=1000000:=(bN _ _).1 Ac;rw[cI] at ho;split at ho
   ·rename_i MV;let ⟨old,hold,ho2⟩:=aq ho;obtain ⟨x0,e',cs',r1,r1',r2,rfl⟩:=zu hold;have Ii:=(h.at r1 hρ).2;let ⟨vs,v1,v2,v3⟩:=OR.gj Ii r1' r2;have TW:(ab5 ie.size n (.slice (V ⟨b,o+off,G⟩) n c)).run E.P w.drew= .ok vs.toArray w.drew:=
     run_firstCells_some w.drew ie.size n _ n c vs v1 (λj v hv=>by rw[add_lit];simpa using v3 j v hv)
    cases cap with
    |u e0=>cases MV
    |k c0=>
     have hc0:=jH c0 rfl;subst hc0;have hgr:c<n+q.1:=(bN _ _).1 MV;cases ho2;exact F5 hE h hn ht hie qe v2 v1 TW hs hx hgr Ac hq1
   ·let ⟨p,old,hp,hold,ho⟩:=bT ho;have hf:=sq hp;obtain ⟨x0,e',cs',r1,r1',r2,rfl⟩:=zu hold;rw[hf] at r1;cases r1;cases r1';have pb:Cells g w id b o p.1 p.2:=(h.at hf hρ).2;let ⟨vs,v1,v2,v3⟩:=pb.gj off (n*ie.size) r2;have TW:(ab5 ie.size n (.slice (V ⟨b,o+off,G⟩) n c)).run E.P w.drew= .ok vs.toArray w.drew:=
     run_firstCells_some w.drew ie.size n _ n c vs v1 (λj v hv=>by rw[add_lit];simpa using v3 j v hv)
    have grow:c<n+q.1->∃r w' g',(aa7 #[t,tx] ty #[.slice (V ⟨b,o+off,G⟩) n c,u2]).run E.P w= .ok r w'/\iz g f w (.sl new 0 (n+q.1) (.u e)) [(new,V (.cells e ((p.2.drop off).take (n*ie.size)++q.2)))] new r g' w':=
     λhgr=>F5 hE h hn ht hie qe v2 v1 TW hs hx hgr Ac hq1
    have hxl:q.2.length=q.1*ie.size:=by rw[<-hx.length];exact hs.newsLen
    cases cap with
    |k c0=>
     have hc0:=jH c0 rfl;subst hc0;have ho:aS (kN (p8 n q.1) c)
      (aS (kN (p8 off (A' (p8 n q.1) ie.size)) p.2.length) (V (SV.sl id off (p8 n q.1) (.k c),[(id,V (SO.cells p.1 (eJ p.2 (p8 off (A' n ie.size)) q.2)))])) G)
      (C9 new e (p8 n q.1) ((p.2.drop off).take (n*ie.size)++q.2) [])=V (v,us):=ho
     rw[cI] at ho;split at ho
     ·rename_i hle;have hle:n+q.1<=c:=(bN _ _).1 hle;let ⟨MX,ho⟩:=aZ ho;have MX:off+(n+q.1)*ie.size<=p.2.length:=(bN _ _).1 MX;cases ho;let ⟨w',s1,s2,s3,s4,s5,s6,s7⟩:=pb.store (P:=E.P) (off:=off+n*ie.size) hx (by rw[hxl];rw[fS] at MX;omega)
      let ⟨t1,t2⟩:=h.write (o':=.cells p.1 (eJ p.2 (off+n*ie.size) q.2)) hf hρ s3 s4 s2 s5 s6 s7;refine ⟨_,w',g,QZ ht q1 (by rw[q2];exact hs) hle (by rw[q2,gL];exact s1),⟨?_,t1,t2,λ_ _=>rfl,λ_=>rfl⟩⟩
      exact .sl hρ hle jH (λe he=>by cases he)
     ·rename_i hle;have hle:¬n+q.1<=c:=λe=>hle ((bN _ _).2 e)
      cases ho;exact grow (by omega)
    |u e0=>
     let ⟨l1,l2⟩:=vW e0 rfl;let ⟨hc,ho⟩:=aZ (show aS (kN (p8 off (A' n ie.size)) p.2.length&&iX e p.1) (C9 new e (p8 n q.1) ((p.2.drop off).take (n*ie.size)++q.2) [(id,G)]) G=V (v,us) from ho);cases ho;rw[bJ] at hc;have qE:off+n*ie.size<=p.2.length:=(bN _ _).1 hc.1;have yI:e=p.1:=(beq_iff _ _).1 hc.2;have he0:e0=e:=by rw[<-l1,pb.et,yI]
     subst he0;rw[hE.size hie] at l2;by_cases hle:n+q.1<=c
     ·let ⟨⟨cur,m1,m0,vs0,m2,m3⟩,m4⟩:=pb;have nT:o+(off+n*ie.size)+news.length<=cur.size:=by
       have:=jn ie.size hle;rw[hs.newsLen];rw[fS] at this;omega
      have rk:=run_storeCells_at E.P b (o+(off+n*ie.size)) p.1 news 0 cur w m1 (by omega) hs.one
      simp only[oH] at rk;have hol:=v1;have Ii:OR (g.bind new (b,o+off) (g.lim id-off) e0) (w.setRow b (cur.toList.take (o+(off+n*ie.size))++news++cur.toList.drop (o+(off+n*ie.size)+news.length)).toArray) new b (o+off) (.cells e0 ((p.2.drop off).take (n*ie.size)++q.2)):=by
       refine ⟨⟨(cur.toList.take (o+(off+n*ie.size))++news++cur.toList.drop (o+(off+n*ie.size)+news.length)).toArray,?_,?_,vs++news,(v2.append hx).mono (Gh.H9 hn),λj v hv=> ?_⟩,Gh.DR _ _ _ _ _⟩
       ·rw[yI];exact setRow_heap w b cur _ p.1 _ m1
       ·rw[Gh.AX];simp;omega
       ·rw[LM,C3 (by simp;omega)]
        by_cases hj:j<n*ie.size
        ·rw[pE (by omega)] at hv
         rw[aC (by omega)]
         have:=v3 j v hv;rw[wc m1] at this;simpa using this
        ·have gy:j<vs.length+news.length:=by have:=(bK.1 hv).1;simpa using this
         rw[nY (by omega)] at hv
         rw[aF (by omega),<-hv]
         congr 1;omega
      let ⟨t1,t2⟩:=h.rename (o':=.cells e0 ((p.2.drop off).take (n*ie.size)++q.2)) hn hf hρ (by simp) (λk hk=>setRow_other w b k _ hk) Ii rfl rfl rfl
      refine ⟨_,_,_,QZ ht q1 (by rw[q2];exact hs) hle (by rw[q2,gL];exact rk),⟨?_,t1,t2,λk hk=>Gh.mO _ _ _ _ hk,λEG=>by cases EG⟩⟩
      exact .sl (id:=new) (off:=0) (o:=o+off) (b:=b) (cap:=.u e0) (Gh.kn _ _ _ _ _) hle (λk hk=>by cases hk) (λe' he=>by
       cases he;refine ⟨Gh.DR _ _ _ _ _,?_⟩;rw[Gh.AX];show 0+c*g.sz e0<=_;rw[hE.size hie];omega)
     ·let ⟨k1,_⟩:=h.kill id;let ⟨r,w',g',a1,a2⟩:=F5 hE k1 hn (ty:=ty) ht hie qe v2 v1 TW hs hx (by omega) Ac hq1
      exact ⟨r,w',g',a1,a2.kill h⟩
  |_=>cases ho
end
end Go.bL
namespace Go.bL
open Go.RowKit Go.MapKept
variable {P:E'} {u u1 u2:BL} {n new nt:Nat} {t ty:ll} {ts:List ll} {k:KH} {ok CT mx:Bool} {J:Type} {a:Act}
section
variable {E:Env} {g:Gh} {f:Hf} {w:World}
variable {u3:BL}
def avN {size:Nat} (h:HR g f w) {x:SV} (hu:VR g u x) {q:Nat×bf} (hs:oZ f size x=V q) (hn:n<=q.1):
  (Builtin.lenOf u).run P w= .ok q.1 w/\∃news,(ab5 size n u).run P w= .ok news.toArray w/\iy g news (q.2.take (n*size))/\news.length=n*size:=by
 have row:BH f size x=V q->(Builtin.lenOf u).run P w= .ok q.1 w/\∃news,(ab5 size n u).run P w= .ok news.toArray w/\iy g news (q.2.take (n*size))/\news.length=n*size:=by
  intro hs;let ⟨m,xs,h1,h2,h3⟩:=bT hs;cases h3;have hn:n<=m:=hn;rcases FU h1 with ⟨id,off,c,rfl⟩|⟨rfl,rfl⟩|⟨rfl,rfl⟩
  ·cases hu with
   | @sl _ _ _ b o c' _ hρ vV jH vW=>
    obtain ⟨x0,e,cs,q1,q1',q2,rfl⟩:=zu (show ln f id off (m*size)=V xs from h2);have hle:n*size<=m*size:=jn _ hn;let ⟨vs0,v10,v20,v30⟩:=OR.gj (h.at q1 hρ).2 q1' q2;obtain ⟨vs,v1,v2,v3⟩:∃vs:fM,vs.length=n*size/\iy g vs ((cs.drop off).take (n*size))/\∀j v,vs[j]? =V v->w.cell? ⟨b,o+off+j,G⟩=V v:=by
     refine ⟨vs0.take (n*size),by rw[dE];omega,?_,λj v hv=> ?_⟩
     ·have:=v20.take (n*size);rwa[lX,fu hle] at this
     ·rw[fw] at hv;split at hv
      ·exact v30 j v hv
      ·cases hv
    refine ⟨rfl,vs,run_firstCells_some w size n _ m c' vs v1 (λj v hv=>by rw[add_lit];exact v3 j v hv),?_,v1⟩
    rw[lX,fu hle];exact v2
  ·cases hu;cases h2;have:n=0:=by omega
   subst this;exact ⟨rfl,[],run_firstCells_none w size 0 0 0,by simpa using .nil,by simp⟩
  ·cases hu with
   | @sle ad c=>
    cases h2;have:n=0:=by omega
    subst this;refine ⟨rfl,[],?_,by simpa using .nil,by simp⟩
    cases ad with
    |none=>exact run_firstCells_none _ size 0 0 c
    |some a=>exact run_firstCells_some _ size 0 a 0 c [] (by simp) (by simp)
 cases hu with
 |str s=>
  let ⟨h1,h2⟩:=aZ (show aS (iX size 1) (V (s.size,Iw s)) G=V q from hs);cases h2;have:=(beq_iff _ _).1 h1;subst this;have hn:n<=s.size:=hn;refine ⟨rfl,(byteCells s).take n,?_,by rw[Hs];exact (QY s).take n,by rw[dE,byteCells_length,Hs];omega⟩
  simp[ab5,byteCells];apply Bt;simp[vD]
 |_=>exact row hs
def arR (hE:fR E g) (h:HR g f w) {d s:SV} (h1:VR g u1 d) (h2:VR g u2 s) {v:SV} {us:hJ} (gE:Bm E f t d s=V (v,us)):∃r w',(aa4 (t::ts).toArray ty #[u1,u2]).run E.P w= .ok r w'/\iz g f w v us new r g w':=by
 let ⟨i,hi,ho⟩:=aq gE;let ⟨e,he,ho⟩:=aq ho;let ⟨ie,hie,ho⟩:=aq (show ay (E.ty.get e) _=V (v,us) from ho);let ⟨qe,ho⟩:=aZ ho;let ⟨nd,q,F0,hq,ho⟩:=bT ho;have ht:=(hE.ty t i hi).desc;rw[sg he] at ht;have ht:E.P.underlying t=V (.slice e):=ht;have oQ:=pr (hE.ty e ie hie);have hmin:aS (kN q.1 nd) q.1 nd=Nat.min q.1 nd:=by
  rw[cI];split
  ·rename_i hc;exact (fu ((bN _ _).1 hc)).symm
  ·rename_i hc;have:¬q.1<=nd:=λe=>hc ((bN _ _).2 e)
   exact (W4 (by omega)).symm
 have hle:Nat.min q.1 nd<=q.1:=Nat.min_le_left _ _;have hle2:Nat.min q.1 nd<=nd:=Nat.min_le_right _ _;have ho:E1 d f ie.size (aS (kN q.1 nd) q.1 nd) q.2=V (v,us):=ho;rw[hmin] at ho;generalize hm:Nat.min q.1 nd=m at ho hle hle2;let ⟨hl,news,hc,hx,Ab⟩:=avN (P:=E.P) h h2 hq hle;have RH:VR g (goInt m) (.int .i64 (.lit (.ofNat m))):=.int _ _ (by simp[SI.ev])
 rcases FU F0 with ⟨id,off,cp,rfl⟩|⟨rfl,rfl⟩|⟨rfl,rfl⟩
 ·cases h1 with
  | @sl _ _ _ b o c' _ hρ vV jH vW=>
   let ⟨p,hp,ho⟩:=aq (show ay (mM (f id)) (λp=>aS (kN (p8 off (A' m ie.size)) p.2.length) (V (SV.int .i64 (.lit (.ofNat m)),[(id,V (SO.cells p.1 (eJ p.2 off (q.2.take (A' m ie.size)))))])) G)=V (v,us) from ho)
   let ⟨MX,ho⟩:=aZ ho;cases ho;have MX:off+m*ie.size<=p.2.length:=(bN _ _).1 MX;have hf:=sq hp;have pb:Cells g w id b o p.1 p.2:=(h.at hf hρ).2;let ⟨w',s1,s2,s3,s4,s5,s6,s7⟩:=pb.store (P:=E.P) (off:=off) hx (by rw[<-hx.length,Ab];exact MX)
   let ⟨t1,t2⟩:=h.write (o':=.cells p.1 (eJ p.2 off (q.2.take (m*ie.size)))) hf hρ s3 s4 s2 s5 s6 s7;refine ⟨_,w',?_,⟨RH,t1,t2,λ_ _=>rfl,λ_=>rfl⟩⟩
   simp[aa4,run_underlying ht,hl,oQ,hm,hc,s1]
 ·cases h1;have:m=0:=by omega
  subst this;cases (show V (SV.int .i64 (.lit (.ofNat 0)),([]:hJ))=V (v,us) from ho);refine ⟨_,w,?_,iz.same h RH⟩;simp[aa4,run_underlying ht,hl,oQ,hm,hc]
 ·cases h1 with
  | @sle ad c=>
   have:m=0:=by omega
   subst this;cases (show V (SV.int .i64 (.lit (.ofNat 0)),([]:hJ))=V (v,us) from ho);have hn0:news= []:=uP (by simpa using Ab)
   subst hn0;refine ⟨_,w,?_,iz.same h RH⟩;cases ad<;>simp[aa4,run_underlying ht,hl,oQ,hm,hc,storeCells]
def kK.get:∀{ms:List Z'} {xs:iC},kK g ms xs->∀{j:Nat} {x:SV×SV×Nat},xs[j]? =V x->∃m,ms[j]? =V m/\atB g m x
 |_,_,.nil,_,_,h=>by simp at h
 |_,_,.cons hd ht,j,x,h=>by
  cases j with
  |zero=>simp at h;subst h;exact ⟨_,rfl,hd⟩
  |succ j=>simp at h;let ⟨m,a,b⟩:=ht.get h;exact ⟨m,by simpa using a,b⟩
def kK.length:∀{ms:List Z'} {xs:iC},kK g ms xs->ms.length=xs.length
 |_,_,.nil=>rfl
 |_,_,.cons _ ht=>by simp[ht.length]
def kK.append:∀{ms ns:List Z'} {xs ys:iC},kK g ms xs->kK g ns ys->kK g (ms++ns) (xs++ys)
 |_,_,_,_,.nil,k=>k
 |_,_,_,_,.cons hd ht,k=>.cons hd (ht.append k)
def kK.set:∀{ms:List Z'} {xs:iC},kK g ms xs->∀{m:Z'} {x:SV×SV×Nat},atB g m x->∀(j:Nat),kK g (ms.set j m) (xs.set j x)
 |_,_,.nil,_,_,_,j=>by simpa using .nil
 |_,_,.cons hd ht,_,_,h,0=>by simpa using .cons h ht
 |_,_,.cons hd ht,_,_,h,j+1=>by simpa using .cons hd (ht.set h j)
def QQ {k:SV} {D:UD} (hl:My k D=M) (hd:NN P t D) (hu:VR g u k):∃d,P.underlying t=V d/\IsKey d u/\
  (∀(y:SV) (b:Bool) (u':BL),sameKey k y=V b->VR g u' y->Instr.sameNow d u u'=V b/\(b=M->u'=u)):=by
 cases hu with
 |bool a=>
  obtain rfl:=agR (show Pn D=M from hl);refine ⟨.bool,hd,trivial,λy b u' hs uD=> ?_⟩
  let ⟨p,q,h1,h2,h3⟩:=bT (show cj (uH (.bool a)) (uH y) (λa b=>V (a==b))=V b from hs)
  cases h1;obtain rfl:=Bn h2;cases uD;cases h3;exact ⟨rfl,λe=>by
   have:a=q:=by simpa using e
   rw[this]⟩
 | @int k e n he=>
  have hl:(isLit e&&aqP k D)=M:=hl;rw[bJ] at hl;let ⟨hl1,CV⟩:=hl;obtain rfl:D= .int k:=by
   cases D with
   |int k'=>rw[oO CV]
   |_=>cases CV
  cases e with
  |lit n0=>
   subst he;refine ⟨.int k,hd,rfl,λy b u' hs uD=> ?_⟩
   let ⟨p,h1,h2⟩:=aq (show ay (intOf y) (λp=>aS (iD k p.1) (aDV (.lit n) p.2) G)=V b from hs)
   let ⟨hk,h3⟩:=aZ h2;have hk:=oO hk;obtain rfl:=tV h1;let ⟨pk,pe⟩:=p;simp only at hk h3 uD;subst hk;cases pe with
   |lit m=>
    cases uD with
    | @int _ _ m' e2=>
     subst e2;cases h3;rw[DM];refine ⟨?_,λe=> ?_⟩
     ·simp only[Instr.sameNow,ax,SI.ev];congr 1
     ·have:n=m':=by simpa using e
      rw[this]
 |str s=>
  obtain rfl:=alM (show Ia D=M from hl);refine ⟨.string,hd,trivial,λy b u' hs uD=> ?_⟩
  let ⟨p,q,h1,h2,h3⟩:=bT (show cj (strOf (.str s)) (strOf y) (λa b=>V (GP a b))=V b from hs)
  cases h1;obtain rfl:=rJ h2;cases uD;cases h3;rw[yr];refine ⟨?_,λe=> ?_⟩
  ·simp only[Instr.sameNow];congr 1;rw[oa,bytes_beq];simp
  ·have:s=q:=by simpa using e
   rw[this]
 |_=>cases hl
def Kn {k:SV} {u:BL} {d:TypeDesc} (hk:∀(y:SV) (b:Bool) (u':BL),sameKey k y=V b->VR g u' y->Instr.sameNow d u u'=V b/\(b=M->u'=u)):
  ∀{ms:List Z'} {es:iC},kK g ms es->∀(i:Nat) (r:A (Nat×SV×Nat)),rX k es i=V r->
   (r=G/\Instr.findNow d u ms i=V G)\/∃j x m,r=V (i+j,x.2.1,x.2.2)/\es[j]? =V x/\ms[j]? =V m/\m.key=u/\Instr.findNow d u ms i=V (V (i+j,m.val))
 |_,_,.nil,i,r,h=>by cases h;exact .inl ⟨rfl,rfl⟩
 |_,_,.cons (m:=m) (x:=x) (ms:=ms) (xs:=es) hd ht,i,r,h=>by
  unfold rX at h;cases hs:sameKey k x.1 with
  |none=>rw[hs] at h;cases h
  |some b=>
   rw[hs] at h;let ⟨h1,h2⟩:=hk x.1 b m.key hs hd.1;cases b with
   |true=>
    cases h;exact .inr ⟨0,x,m,rfl,rfl,rfl,h2 rfl,by simp[Instr.findNow,h1]⟩
   |false=>
    rcases Kn hk ht (i+1) r h with ⟨q1,q2⟩|⟨j,y,m',q1,q2,q3,q4,q5⟩
    ·exact .inl ⟨q1,by simp[Instr.findNow,h1,q2]⟩
    ·refine .inr ⟨j+1,y,m',by rw[q1];congr 2;omega,by simpa using q2,by simpa using q3,q4,?_⟩
     simp[Instr.findNow,h1,q5];omega
def agG (hE:fR E g) (h:HR g f w) {x k z:SV} (h1:VR g u1 x) (h2:VR g u2 k) (gE:wL E f t x k ok=V z):
  ∃r,(Instr.lookup t u1 u2 ok).run E.P w= .ok r w/\VR g r z:=by
 let ⟨i,hi,ho⟩:=aq gE;let ⟨q,hq,ho⟩:=aq ho;let ⟨ik,ie,hik,hie,ho⟩:=bT ho;let ⟨hl,ho⟩:=aZ ho;let ⟨es,hes,ho⟩:=aq ho;let ⟨r,hr,ho⟩:=aq ho;have ht:=(hE.ty t i hi).desc;rw[Mw hq] at ht;have ht:E.P.underlying t=V (.map q.1 q.2):=ht;let ⟨d,hd,Zo,ara⟩:=QQ hl (hE.ty _ ik hik).desc h2;let ⟨zv,z1,z2,z3⟩:=afQ (hE.ty _ ie hie);have main:∀(ms:Array Z'),kK g ms.toList es->(Instr.checkKey ms.isEmpty 10000 q.1 u2).run E.P w= .ok () w/\∃a rv,(Instr.findKey q.1 u2 ms.toList).run E.P w= .ok a w/\VR g rv z/\
   ((a=G/\rv=if ok then Value.tuple #[zv,.bool B] else zv)\/∃j v,a=V (j,v)/\rv=if ok then Value.tuple #[v,.bool M] else v):=by
  intro ms hms;refine ⟨run_checkKey (P:=E.P) (w:=w) hd Zo ms.isEmpty 9999,?_⟩;rcases Kn ara hms 0 r hr with ⟨rfl,q2⟩|⟨j,y,m,rfl,q2,q3,q4,q5⟩
  ·let ⟨zz,hz,ho⟩:=aq (show ay (jr ie ie.zero 0) (λz=>V (okV ok z B))=V z from ho)
   cases ho;refine ⟨G,_,run_findKey (P:=E.P) (w:=w) hd q2,?_,.inl ⟨rfl,rfl⟩⟩;have:=aqr (g:=g) z2 z3 hz;cases ok
   ·exact this
   ·exact .dq (.cons this (.cons (.bool B) .nil))
  ·let ⟨m',r1,r2⟩:=hms.get q2;rw[q3] at r1;obtain rfl:m=m':=by simpa using r1
   cases (show V (okV ok y.2.1 M)=V z from ho);refine ⟨_,_,run_findKey (P:=E.P) (w:=w) hd q5,?_,.inr ⟨_,_,rfl,rfl⟩⟩;cases ok
   ·exact r2.2.1
   ·exact .dq (.cons r2.2.1 (.cons (.bool M) .nil))
 cases h1 with
 |pT=>
  cases (show V ([]:iC)=V es from hes);let ⟨hck,a,rv,r1,r2,r3⟩:=main #[] .nil;refine ⟨rv,?_,r2⟩;rcases r3 with ⟨rfl,rfl⟩|⟨j,v,rfl,rfl⟩<;>simp only[Instr.lookup,B',run_underlying ht,D',E2,hck,r1,z1]
 | @mp id b o hρ=>
  let ⟨p,hp,hes⟩:=aq (show ay (kZ (f id)) (λp=>V p.1)=V es from hes)
  cases hes;have hf:=FQ hp;let ⟨ms,m1,m2⟩:=(h.at hf hρ).2;let ⟨hck,a,rv,r1,r2,r3⟩:=main ms m2;refine ⟨rv,?_,r2⟩;rcases r3 with ⟨rfl,rfl⟩|⟨j,v,rfl,rfl⟩<;>simp only[Instr.lookup,B',run_underlying ht,D',E2,ac3 m1,hck,r1,z1]
 |_=>cases hes
def Z8 (hE:fR E g) (h:HR g f w) {x k v:SV} (h1:VR g u1 x) (h2:VR g u2 k) (h3:VR g u3 v) {us:hJ} (gE:Co E f t x k v=V us):
  ∃w',(Instr.mapUpdate t u1 u2 u3).run E.P w= .ok () w'/\HR g (hZ f us) w'/\Fr g f w g (hZ f us) w':=by
 let ⟨id,jw,ho⟩:=aq gE;let ⟨i,hi,ho⟩:=aq ho;let ⟨q,hq,ho⟩:=aq ho;let ⟨ik,p,hik,hp,ho⟩:=bT ho;let ⟨hl,ho⟩:=aZ ho;let ⟨r,hr,ho⟩:=aq ho;cases ho;obtain rfl:=aam jw;have ht:=(hE.ty t i hi).desc;rw[Mw hq] at ht;have ht:E.P.underlying t=V (.map q.1 q.2):=ht;let ⟨d,hd,Zo,ara⟩:=QQ hl (hE.ty _ ik hik).desc h2;have hf:=FQ hp;cases h1 with
 | @mp _ b o hρ=>
  let ⟨hb,ms,m1,m2⟩:=h.at hf hρ;have hck:=run_checkKey (P:=E.P) (w:=w) hd Zo B 9999;have fin:∀(FO:Array Z') (LB:iC) (c':Nat),kK g FO.toList LB->HR g (jB f (id,V (.map LB c'))) {w with heap:=w.heap.setIfInBounds b (.map FO c')}/\Fr g f w g (jB f (id,V (.map LB c'))) {w with heap:=w.heap.setIfInBounds b (.map FO c')}:=by
   intro FO LB c' he;let ⟨s1,s2⟩:=heap_set (o':=Obj.map FO c') m1;exact h.write hf hρ (by simp) (λk hk=>s2 k hk) ⟨FO,s1,he⟩ rfl rfl rfl
  rcases Kn ara m2 0 r hr with ⟨rfl,q2⟩|⟨j,y,m,rfl,q2,q3,q4,q5⟩
  ·have hfk:=run_findKey (P:=E.P) (w:=w) hd q2;refine ⟨_,?_,fin (ms.push {key:=u2,val:=u3,born:=p.2}) (p.1++ [(k,v,p.2)]) (p.2+1) (by rw[Array.toList_push];exact m2.append (.cons ⟨h2,h3,rfl⟩ .nil))⟩
   simp only[Instr.mapUpdate,B',run_underlying ht,D',ac3 m1,hck,hfk];exact run_setObj_map _ m1
  ·have hfk:=run_findKey (P:=E.P) (w:=w) hd q5;let ⟨m',r1,r2⟩:=m2.get q2;rw[q3] at r1;obtain rfl:m=m':=by simpa using r1
   rw[cq] at hfk;have hmj:ms[j]? =V m:=by simpa using q3
   have hold:(((ms[j]?).map (·.key)).getD u2)=u2:=by rw[hmj];simpa using q4
   have BY:(Instr.keyThatStays u2 u2).run E.P w= .ok u2 w:=by simp[Instr.keyThatStays,sameBits_self Zo]
   refine ⟨_,?_,fin (ms.modify j λe=>{e with key:=u2,val:=u3}) (p.1.set (0+j) (k,v,y.2.2)) p.2 ?_⟩
   ·simp only[Instr.mapUpdate,B',run_underlying ht,D',ac3 m1,hck,hfk,hold,BY];exact run_setObj_map _ m1
   ·have:(ms.modify j λe=>{e with key:=u2,val:=u3}).toList=ms.toList.set j {m with key:=u2,val:=u3}:=by
     apply wu;intro n;rw[mC,LQ,List.getElem?_set];by_cases hn:j=n
     ·subst hn;have dz:j<ms.size:=(oI.1 hmj).1;have om:ms[j]=m:=(oI.1 hmj).2;simp[dz,om]
     ·simp[hn]
    rw[this,cq];exact m2.set (m:={m with key:=u2,val:=u3}) (x:=(k,v,y.2.2)) ⟨h2,h3,r2.2.2⟩ j
end
section
variable {E:Env} {g:Gh} {f:Hf} {w:World}
def agr (hE:fR E g) (h:HR g f w) (hn:g.O new=G) {x:SV} (hu:VR g u x) {v:SV} {us:hJ} (gE:AE E f new t x=V (v,us)):
  ∃r w' g',(Instr.range t u).run E.P w= .ok r w'/\iz g f w v us new r g' w':=by
 let ⟨i,hi,ho⟩:=aq gE;let ⟨o,Ij,ho⟩:=aq ho;cases ho;have ht:=(hE.ty t i hi).desc;have fin:∀(ob:Obj),(Instr.range t u).run E.P w= .ok (.pointer (V ⟨w.heap.size,0,G⟩)) (w.alloc ob)->OR (g.bind new (w.heap.size,0) 0 0) (w.alloc ob) new w.heap.size 0 o->
   ∃r w' g',(Instr.range t u).run E.P w= .ok r w'/\iz g f w (.ptr new 0) [(new,V o)] new r g' w':=by
  intro ob rk Ii;let ⟨r1,r2⟩:=h.alloc hn (o':=o) (w':=w.alloc ob) (l:=0) (e:=0) rfl Ii;exact ⟨.pointer (V ⟨w.heap.size,0,G⟩),_,_,rk,⟨.ptr (o:=0) (off:=0) (Gh.kn _ _ _ _ _),r1,r2,λid cR=>Gh.mO _ _ _ _ cR,λEG=>by cases EG⟩⟩
 generalize i.desc=D at ht Ij;cases D with
 |string=>
  have ht:E.P.underlying t=V .string:=ht;let ⟨s,hs,Ij⟩:=aq (show ay (strOf x) (λs=>V (SO.qo s 0))=V o from Ij)
  cases Ij;obtain rfl:=rJ hs;cases hu;refine fin (.stringIter s 0) ?_ ⟨rfl,heap_alloc_new w _⟩;simp[Instr.range,run_underlying ht,newObj];rfl
 |map kt et=>
  have ht:E.P.underlying t=V (.map kt et):=ht;cases hu with
  |pT=>
   cases (show V (SO.mapIter G 0 [] 0)=V o from Ij);refine fin (.mapIter G 0 #[] 0) ?_ ⟨rfl,G,#[],heap_alloc_new w _,rfl,rfl⟩;simp[Instr.range,run_underlying ht,newObj];rfl
  | @mp id b c hρ=>
   let ⟨p,hp,Ij⟩:=aq (show ay (kZ (f id)) (λp=>V (SO.mapIter (V id) p.2 [] p.2))=V o from Ij)
   cases Ij;have hf:=FQ hp;let ⟨hb,ms,m1,m2⟩:=h.at hf hρ;have cR:id≠new:=λe=>by subst e;rw[hn] at hρ;cases hρ
   refine fin (.mapIter (V b) p.2 #[] p.2) ?_ ⟨rfl,V b,#[],heap_alloc_new w _,rfl,b,c,rfl,by rw[Gh.mO _ _ _ _ cR];exact hρ⟩
   simp[Instr.range,run_underlying ht,newObj,ac3 m1];rfl
  |_=>cases Ij
 |_=>cases Ij
def alC (hE:fR E g) (h:HR g f w) {x:SV} (hu:VR g u x) {v:SV} {us:hJ} (gE:Es f CT x=V (v,us)):
  ∃r w',(Instr.next u CT ty).run E.P w= .ok r w'/\iz g f w v us new r g w':=by
 let ⟨hs,Ij⟩:=aZ gE;subst hs;let ⟨id,jw,ho2⟩:=aq Ij;let ⟨p,hp,ho3⟩:=aq ho2;let ⟨q,hq,hid2⟩:=aq jw;let ⟨hz,hid3⟩:=aZ hid2;cases hid3;have hz:=(beq_iff _ _).1 hz;obtain rfl:=rN hq;have hf:=aqK hp;cases hu with
 | @ptr _ _ b o hρ=>
  obtain ⟨hb,rfl,m1⟩:=h.at hf hρ;rw[hz];have om:(getObj b).run E.P w= .ok (.stringIter p.1 p.2) w:=by simp[getObj,Sem.run,m1]
  have ho:V (H4 q.1 p)=V (v,us):=ho3;unfold H4 at ho;rw[cI] at ho;split at ho
  ·rename_i dz;have dz:p.2<p.1.size:=(bN _ _).1 dz;cases ho;let ⟨s1,s2⟩:=heap_set (o':=Obj.stringIter p.1 (p.2+(V' p.1 p.2).2)) m1;let ⟨t1,t2⟩:=h.write (o':=.qo p.1 (p.2+(V' p.1 p.2).2)) (w':={w with heap:=w.heap.setIfInBounds b (.stringIter p.1 (p.2+(V' p.1 p.2).2))}) hf hρ (by simp) (λk hk=>s2 k hk) ⟨rfl,s1⟩ rfl rfl rfl
   refine ⟨.tuple #[.bool M,goInt p.2,.int .i32 (V' p.1 p.2).1],{w with heap:=w.heap.setIfInBounds b (.stringIter p.1 (p.2+(V' p.1 p.2).2))},?_,⟨?_,t1,t2,λ_ _=>rfl,λ_=>rfl⟩⟩
   ·simp only[oH,Instr.next,B',om,D',aF dz];simp[setObj,Sem.run,m1]
   ·exact .dq (.cons (.bool M) (.cons (.int _ _ (by simp[SI.ev])) (.cons (.int _ _ (by simp[SI.ev])) .nil)))
  ·rename_i dz;have dz:¬p.2<p.1.size:=λe=>dz ((bN _ _).2 e)
   cases ho;refine ⟨.tuple #[.bool B],w,?_,iz.same h (.dq (.cons (.bool B) .nil))⟩;simp only[oH,Instr.next,B',om,D',aC dz,E2]
def axa (hE:fR E g) (h:HR g f w) {i:TI} (hi:E.ty.get t=V i) {x z:SV} (hu:VR g u x) (gE:Cy i.desc x f=V z):∃r,(ab2 #[t] ty #[u]).run E.P w= .ok r w/\VR g r z:=by
 have hd:=(hE.ty t i hi).desc;have lit:∀n:Nat,VR g (goInt n) (xb n):=λn=>.int _ _ (by simp[SI.ev])
 generalize i.desc=D at hd gE;cases D with
 |string=>
  let ⟨s,hs,ho⟩:=aq (show ay (strOf x) (λs=>V (xb s.size))=V z from gE)
  cases ho;obtain rfl:=rJ hs;cases hu;exact ⟨goInt s.size,by simp[ab2,run_underlying (show E.P.underlying t=V .string from hd)],lit _⟩
 |slice e=>
  let ⟨n,hn,ho⟩:=aq (show ay (Ry x) (λn=>V (xb n))=V z from gE)
  cases ho;have hd:E.P.underlying t=V (.slice e):=hd;rcases FU hn with ⟨id,off,c,rfl⟩|⟨rfl,rfl⟩|⟨rfl,rfl⟩<;>cases hu<;>exact ⟨goInt _,by simp[ab2,run_underlying hd],lit _⟩
 |array n e=>
  cases (show V (xb n)=V z from gE);have hd:E.P.underlying t=V (.array n e):=hd;exact ⟨goInt n,by simp[ab2,run_underlying hd],lit _⟩
 |map k e=>
  have hd:E.P.underlying t=V (.map k e):=hd;cases hu with
  |pT=>
   cases (show V (xb 0)=V z from gE);exact ⟨goInt 0,by simp[ab2,run_underlying hd],lit _⟩
  | @mp id b o hρ=>
   let ⟨p,hp,ho⟩:=aq (show ay (kZ (f id)) (λp=>V (xb p.1.length))=V z from gE)
   cases ho;let ⟨hb,ms,m1,m2⟩:=h.at (FQ hp) hρ;refine ⟨goInt ms.size,by simp[ab2,run_underlying hd,ac3 m1],?_⟩
   have:=m2.length;rw[<-this];exact lit _
  |_=>cases gE
 |_=>cases gE
def aan (hE:fR E g) {x y z:SV} {v:BL} (hu:VR g u x) (hv:VR g v y) (gE:Za E mx x y=V z) (ts:Array ll) (ty:ll):
  ∃r,((if mx then Builtin.max_ ts ty #[u,v] else Builtin.min_ ts ty #[u,v])).run E.P w= .ok r w/\VR g r z:=by
 let ⟨a,b,h1,h2,ho⟩:=bT gE;let ⟨r,hr,ho⟩:=aq ho;cases ho;obtain rfl:=tV h1;obtain rfl:=tV h2;cases hu with|int _ _ e1=>cases hv with|int _ _ e2=>
 subst e1;subst e2;cases mx with
 |true=>
  have:=AJ hE (show FT E a.2 b.2=V r from hr);refine ⟨.int a.1 (if b.2.ev g.η>a.2.ev g.η then b.2.ev g.η else a.2.ev g.η),by simp[Builtin.max_,Builtin.max2],.int _ _ ?_⟩
  cases r with
  |true=>rw[aF (by simpa using this)]
  |false=>rw[aC (by simpa using this)]
 |false=>
  have:=AJ hE (show FT E b.2 a.2=V r from hr);refine ⟨.int a.1 (if b.2.ev g.η<a.2.ev g.η then b.2.ev g.η else a.2.ev g.η),by simp[Builtin.min_,Builtin.min2],.int _ _ ?_⟩
  cases r with
  |true=>rw[aF (by simpa using this)]
  |false=>rw[aC (by simpa using this)]
def vZ {l:List J} {p:J×J} (h:xW l=V p):l= [p.1,p.2]:=by
 unfold xW at h;split at h
 ·cases h;rfl
 ·cases h
def aPZ (P:E') (o:N') (a:Act) (w:World) (v:BL) (w':World):Prop:=
 (execOp a.eval o).run P w= .ok (.value v) w'\/((execOp a.eval o).run P w= .ok .skip w'/\v=undef)
def Mq (h:VR g u (.int k (.lit (.ofNat n)))):u= .int k (.ofNat n):=by
 cases h with
 |int _ _ e=>rw[e];rfl
def KF {xs:Array J} {l:List J} (h:xs.toList=l):xs=l.toArray:=by apply Bt;simpa using h
def HH {us:fM} {x y:SV} (h:nD g us [x,y]):∃u v,us= [u,v]/\VR g u x/\VR g v y:=by
 cases h with
 |cons h1 h=>cases h with
  |cons h2 h=>cases h;exact ⟨_,_,rfl,h1,h2⟩
def aIf {us:fM} {x:SV} (h:nD g us [x]):∃u,us= [u]/\VR g u x:=by
 cases h with
 |cons h1 h=>cases h;exact ⟨_,rfl,h1⟩
def Y5 (hE:fR E g) (h:HR g f w) {tm:Tf} (jx:FR g nt tm a.tmps) (hn:g.O new=G) {b:Builtin} {args:Array C'} {ts:Array ll} {aa:bf} (has:gj tm args.toList=V aa) (ty:ll) (cs:Array Bool) {v:SV} {us:hJ} (gE:nK E f new b aa ts.toList=V (v,us)):∃r w' g',(builtin b ts ty cs (args.map a.eval)).run E.P w= .ok (.value r) w'/\iz g f w v us new r g' w':=by
 have yF:=BB jx has;have Bl:args.map a.eval=(args.toList.map a.eval).toArray:=KF (by simp)
 rw[Bl];generalize args.toList.map a.eval=vs at yF;cases b with
 |len=>
  let ⟨x,t,h1,h2,ho⟩:=bT (show cj aa.head? ts.toList.head? (λx t=>aS (iX aa.length 1) (ay (E.ty.get t) λi=>same (Cy i.desc x f)) G)=V (v,us) from gE)
  let ⟨hl,ho⟩:=aZ ho;let ⟨i,hi,ho⟩:=aq ho;let ⟨z,hz,ho⟩:=aq ho;cases ho;have hl:=(beq_iff _ _).1 hl;obtain rfl:aa= [x]:=by
   cases aa with
   |nil=>simp at hl
   |cons y l=>simp at hl h1;simp[hl,h1]
  obtain ⟨u,rfl,hu⟩:=aIf yF;let ⟨r,r1,r2⟩:=axa (w:=w) (ty:=ty) hE h hi hu hz;refine ⟨r,w,g,?_,iz.same h r2⟩;have ht:ts[0]? =V t:=by
   rw[<-mC];cases mm:ts.toList with
   |nil=>rw[mm] at h2;simp at h2
   |cons t' l=>rw[mm] at h2;simpa using h2
  have hl1:(ab2 ts ty #[u]).run E.P w=(ab2 #[t] ty #[u]).run E.P w:=by simp only[ab2,ht];rfl
  simp only[builtin,B'];rw[hl1,r1];rfl
 |append=>
  let ⟨p,q,h1,h2,ho⟩:=bT (show cj (xW aa) (xW ts.toList) (λp q=>ay (E.ty.get q.2) λi=>aS (Az i.desc) (mP E f new q.1 p.1 p.2) G)=V (v,us) from gE)
  let ⟨i,hi,ho⟩:=aq ho;let ⟨hr,ho⟩:=aZ ho;obtain rfl:=vZ h1;obtain rfl:=KF (vZ h2);obtain ⟨u1,u2,rfl,k1,k2⟩:=HH yF;let ⟨r,w',g',r1,r2⟩:=aia (ty:=ty) hE h hn k1 k2 hi hr ho;exact ⟨r,w',g',by simp only[builtin,B'];rw[r1];rfl,r2⟩
 |copy=>
  let ⟨p,t,h1,h2,ho⟩:=bT (show cj (xW aa) ts.toList.head? (λp t=>Bm E f t p.1 p.2)=V (v,us) from gE)
  obtain rfl:=vZ h1;obtain ⟨u1,u2,rfl,k1,k2⟩:=HH yF;cases mm:ts.toList with
  |nil=>rw[mm] at h2;simp at h2
  |cons t' l=>
   rw[mm] at h2;obtain rfl:t'=t:=by simpa using h2
   obtain rfl:=KF mm;let ⟨r,w',r1,r2⟩:=arR (new:=new) (ty:=ty) (ts:=l) hE h k1 k2 ho;exact ⟨r,w',g,by simp only[builtin,B'];rw[r1];rfl,r2⟩
 |min=>
  let ⟨p,h1,ho⟩:=aq (show ay (xW aa) (λp=>same (Za E B p.1 p.2))=V (v,us) from gE)
  let ⟨z,hz,ho⟩:=aq ho;cases ho;obtain rfl:=vZ h1;obtain ⟨u1,u2,rfl,k1,k2⟩:=HH yF;let ⟨r,r1,r2⟩:=aan (w:=w) hE k1 k2 hz ts ty;refine ⟨r,w,g,?_,iz.same h r2⟩;simp only[az,au] at r1;simp only[builtin,B'];rw[r1];rfl
 |max=>
  let ⟨p,h1,ho⟩:=aq (show ay (xW aa) (λp=>same (Za E M p.1 p.2))=V (v,us) from gE)
  let ⟨z,hz,ho⟩:=aq ho;cases ho;obtain rfl:=vZ h1;obtain ⟨u1,u2,rfl,k1,k2⟩:=HH yF;let ⟨r,r1,r2⟩:=aan (w:=w) hE k1 k2 hz ts ty;refine ⟨r,w,g,?_,iz.same h r2⟩;simp only[ax] at r1;simp only[builtin,B'];rw[r1];rfl
 |_=>cases gE
end
end Go.bL
namespace Go.bL
open Go.RowKit
variable {new i nx:Nat} {o:N'} {x:C'} {q:Nat×Nat} {t e:ll} {k:FuncId} {ok CT:Bool} {xs:List C'} {D:Nat->Bool} {r u:BL} {K:Act->World->Prop} {w':World} {KE:Ending->World->Prop} {S:Nat->Prop} {dF:Array Bool} {ms:List Z'} {sa:Array Nat} {fn:Func} {rv:ab0}
section
variable {E:Env} {g:Gh} {f:Hf} {w:World}
def aBc (hE:fR E g) (h:HR g f w) {nt:Nat} {tm:Tf} {a:Act} (jx:FR g nt tm a.tmps) (hn:g.O new=G) {v:SV} {us:hJ} (gE:ux E o.op tm f new=V (v,us)):
  ∃r w' g',aPZ E.P o a w r w'/\iz g f w v us new r g' w':=by
 let ⟨dst,op,ty,pos,after,guard⟩:=o;have val:=λ{x:C'} {y:SV} (hx:dt tm x=V y)=>tG (g:=g) jx hx
 cases op with
 |move x=>
  let ⟨y,hy,ho⟩:=aq (show ay (dt tm x) (λv=>V (v,([]:hJ)))=V (v,us) from gE)
  cases ho;exact ⟨_,w,g,.inl rfl,iz.same h (val hy)⟩
 |assign x=>
  let ⟨y,hy,ho⟩:=aq (show ay (dt tm x) (λv=>V (v,([]:hJ)))=V (v,us) from gE)
  cases ho;exact ⟨_,w,g,.inl rfl,iz.same h (val hy)⟩
 |pick c x y=>
  let ⟨cv,hc,ho⟩:=aq (show ay (dt tm c) (λv=>ay (uH v) λb=>one tm (aS b x y) λv=>V (v,([]:hJ)))=V (v,us) from gE)
  let ⟨b,hb,ho⟩:=aq ho;let ⟨z,hz,ho⟩:=aq ho;cases ho;obtain rfl:=Bn hb;have hcv:a.eval c= .bool b:=by have:=val hc;generalize a.eval c=q at this;cases this;rfl
  refine ⟨if b then a.eval x else a.eval y,w,g,.inl ?_,iz.same h ?_⟩
  ·simp only[execOp,hcv,asBool,B',E2,D']
  ·cases b
   ·exact val hz
   ·exact val hz
 |alloc e=>
  let ⟨i,hi,ho⟩:=aq (show ay (E.ty.get e) (λi=>V (SV.ptr new 0,[(new,V (SO.cells e i.zero))]))=V (v,us) from gE)
  cases ho;let ⟨z,z1,z2⟩:=apt (hE.ty e i hi);refine ⟨.pointer (V ⟨w.heap.size,0,G⟩),_,_,.inl ?_,h.row hn (w0:=w) (w':=w.alloc (.cells z.cells e)) (l:=0) ⟨rfl,rfl,rfl,rfl⟩ rfl (z2 g) (λj v hv=>by simpa using hv) (ru _) (.ptr (o:=0) (off:=0) (Gh.kn _ _ _ _ _))⟩
  simp[execOp,Instr.alloc,z1,newVar,newRow]
 |box e x=>
  let ⟨y,hy,ho⟩:=aq (show ay (dt tm x) (aqu new e)=V (v,us) from gE);let ⟨cs,hc,ho⟩:=aq ho;cases ho;refine ⟨.pointer (V ⟨w.heap.size,0,G⟩),_,_,.inl ?_,h.row hn (w0:=w) (w':=w.alloc (.cells (a.eval x).cells e)) (l:=0) ⟨rfl,rfl,rfl,rfl⟩ rfl ((val hy).jy hc) (λj v hv=>by simpa using hv) (ru _) (.ptr (o:=0) (off:=0) (Gh.kn _ _ _ _ _))⟩
  simp[execOp,Instr.box,newVar,newRow]
 |build t parts=>
  let ⟨jC,hpc,ho⟩:=aq (show ay (mI tm parts.toList) (λjC=>same (Nr E t jC))=V (v,us) from gE)
  let ⟨x,hx,ho⟩:=aq ho;cases ho;let ⟨hl,hpt⟩:=GZ jx parts.toList jC hpc;let ⟨r,r1,r2⟩:=alQ hE (parts:=parts.map λ(i,x)=>(i,a.eval x)) hx (by simpa using hl) (λj i v i' xs h1 h2=>hpt j i v i' xs (by simpa using h1) h2) w
  exact ⟨r,w,g,.inl (by simp only[execOp,B',r1,D',E2]),iz.same h r2⟩
 |buildSlice t len parts=>
  let ⟨jC,hpc,ho⟩:=aq (show ay (mI tm parts.toList) (λjC=>qv E new t len jC)=V (v,us) from gE)
  let ⟨r,w',g',r1,r2⟩:=QI hE h hn jx hpc ho;exact ⟨r,w',g',.inl (by simp only[execOp,B',r1,D',E2]),r2⟩
 |insert t m k x=>
  let ⟨y1,y2,h1,h2,ho⟩:=bT (show cj (dt tm m) (dt tm k) (λa b=>one tm x λc=>unit (Co E f t a b c))=V (v,us) from gE)
  let ⟨y3,h3,ho⟩:=aq ho;let ⟨us',hu,ho⟩:=aq ho;cases ho;let ⟨w',r1,r2,r3⟩:=Z8 hE h (val h1) (val h2) (val h3) hu;exact ⟨undef,w',g,.inr ⟨by simp only[execOp,B',r1,D',E2],rfl⟩,⟨.dq .nil,r2,r3,λ_ _=>rfl,λ_=>rfl⟩⟩
 |mapUpdate t m k x=>
  let ⟨y1,y2,h1,h2,ho⟩:=bT (show cj (dt tm m) (dt tm k) (λa b=>one tm x λc=>unit (Co E f t a b c))=V (v,us) from gE)
  let ⟨y3,h3,ho⟩:=aq ho;let ⟨us',hu,ho⟩:=aq ho;cases ho;let ⟨w',r1,r2,r3⟩:=Z8 hE h (val h1) (val h2) (val h3) hu;exact ⟨undef,w',g,.inr ⟨by simp only[execOp,B',r1,D',E2],rfl⟩,⟨.dq .nil,r2,r3,λ_ _=>rfl,λ_=>rfl⟩⟩
 |load t x=>
  let ⟨y,hy,ho⟩:=aq (show ay (dt tm x) (λv=>same (rR E f t v))=V (v,us) from gE)
  let ⟨z,hz,ho⟩:=aq ho;cases ho;let ⟨r,r1,r2⟩:=TE hE h (val hy) hz;exact ⟨r,w,g,.inl (by simp only[execOp,B',r1,D',E2]),iz.same h r2⟩
 |store t x y=>
  let ⟨y1,y2,h1,h2,ho⟩:=bT (show cj (dt tm x) (dt tm y) (λa v=>unit (xi E f t v a))=V (v,us) from gE)
  let ⟨us',hu,ho⟩:=aq ho;cases ho;let ⟨w',r1,r2,r3⟩:=alo hE h (val h1) (val h2) hu;exact ⟨undef,w',g,.inr ⟨by simp only[execOp,B',r1,D',E2],rfl⟩,⟨.dq .nil,r2,r3,λ_ _=>rfl,λ_=>rfl⟩⟩
 |nilCheck x=>
  let ⟨y,hy,ho⟩:=aq (show ay (dt tm x) (λv=>same (abA v))=V (v,us) from gE)
  let ⟨z,hz,ho⟩:=aq ho;cases ho;obtain ⟨rfl,hk⟩:=aqv hz;have hv:=val hy;refine ⟨a.eval x,w,g,.inl ?_,iz.same h hv⟩;rcases hk with ⟨i,o,rfl⟩|⟨fn,c1,c2,rfl⟩<;>(generalize hq:a.eval x=q at hv;cases hv;simp only[execOp,hq,E2])
 |binOp op t x y yt=>
  let ⟨y1,y2,h1,h2,ho⟩:=bT (show cj (dt tm x) (dt tm y) (λv u=>same (R0 E op t x y v u))=V (v,us) from gE)
  let ⟨z,hz,ho⟩:=aq ho;cases ho;let ⟨r,r1,r2⟩:=azd hE hz (val h1) (val h2) w;exact ⟨r,w,g,.inl (by simp only[execOp,B'] at r1 ⊢;rw[r1];rfl),iz.same h r2⟩
 |unOp op t x=>
  let ⟨y,hy,ho⟩:=aq (show ay (dt tm x) (λv=>same (unA op v))=V (v,us) from gE)
  let ⟨z,hz,ho⟩:=aq ho;cases ho;let ⟨r,r1,r2⟩:=aAC hz (val hy) (P:=E.P) w;exact ⟨r,w,g,.inl (by simp only[execOp,B',r1,D',E2]),iz.same h r2⟩
 |convert s d x=>
  let ⟨y,hy,ho⟩:=aq (show ay (dt tm x) (λv=>same (Ug E s d v))=V (v,us) from gE)
  let ⟨z,hz,ho⟩:=aq ho;cases ho;let ⟨r,r1,r2⟩:=arT hE hz (val hy) w;exact ⟨r,w,g,.inl (by simp only[execOp,B',r1,D',E2]),iz.same h r2⟩
 |makeFunc fn first kz=>
  let ⟨qe,ho⟩:=aZ (show aS (agv fn) (cj (gj tm first.toList) (gj tm kz.toList) λl m=>V (SV.fn fn l m,([]:hJ))) G=V (v,us) from gE)
  let ⟨l,m,h1,h2,ho⟩:=bT ho;cases ho;cases fn with
  |func k=>
   refine ⟨.func (.func k) (first.map a.eval) (kz.map a.eval),w,g,.inl ?_,iz.same h (.fn ?_ ?_)⟩
   ·simp[execOp,Instr.makeFunc]
   ·simpa using BB jx h1
   ·simpa using BB jx h2
  |_=>cases qe
 |makeMap t r=>
  have mk:∀(hv:v= .mp new) (hu:us= [(new,V (.map [] 0))]),∃g',iz g f w v us new (.map (V w.heap.size)) g' (w.alloc (.map #[] 0)):=by
   rintro rfl rfl;let ⟨r1,r2⟩:=h.alloc hn (o':=.map [] 0) (w':=w.alloc (.map #[] 0)) (l:=0) (e:=0) rfl ⟨#[],heap_alloc_new w _,.nil⟩;exact ⟨_,.mp (o:=0) (Gh.kn _ _ _ _ _),r1,r2,λid cR=>Gh.mO _ _ _ _ cR,λEG=>by cases EG⟩
  cases r with
  |none=>
   cases (show V (SV.mp new,[(new,V (SO.map [] 0))])=V (v,us) from gE);let ⟨g',q⟩:=mk rfl rfl;refine ⟨_,_,g',.inl ?_,q⟩;simp[execOp,Instr.makeMap,newObj];rfl
  |some x=>
   let ⟨i,y,hi,hy,ho⟩:=bT (show cj (E.ty.get t) (dt tm x) (λi v=>cj (G0 i.desc) (oE v) λ_ _=>agA new)=V (v,us) from gE)
   let ⟨q,n,hq,ahm,ho⟩:=bT ho;cases ho;let ⟨g',p⟩:=mk rfl rfl;obtain ⟨k,rfl⟩:=wK ahm;have hx:=Mq (val hy);have ht:=(hE.ty t i hi).desc;rw[Mw hq] at ht;have ht:E.P.underlying t=V (.map q.1 q.2):=ht;refine ⟨_,_,g',.inl ?_,p⟩;simp[execOp,Instr.makeMap,newObj,run_underlying ht,hx,asInt];rfl
 |makeSlice t l c=>
  let ⟨y1,y2,h1,h2,ho⟩:=bT (show cj (dt tm l) (dt tm c) (λu v=>cj (oE u) (oE v) (HY E new t))=V (v,us) from gE)
  let ⟨n1,n2,k1,k2,ho⟩:=bT ho;obtain ⟨q1,rfl⟩:=wK k1;obtain ⟨q2,rfl⟩:=wK k2;have e1:=Mq (val h1);have e2:=Mq (val h2);let ⟨r,w',g',r1,r2⟩:=alD (kl:=q1) (kc:=q2) hE h hn ho;exact ⟨r,w',g',.inl (by simp only[execOp,B',e1,e2,r1,D',E2]),r2⟩
 |slice t x lo hi mx=>
  let ⟨y,hy,ho⟩:=aq (show ay (dt tm x) (λv=>ug (km tm lo) (km tm hi) (km tm mx) λl u m=>same (y6 E t v l u m))=V (v,us) from gE)
  let ⟨l,u,m,h1,h2,h3,ho⟩:=Dj ho;let ⟨z,hz,ho⟩:=aq ho;cases ho;let ⟨r,r1,r2⟩:=alr (w:=w) hE jx (val hy) h1 h2 h3 hz;exact ⟨r,w,g,.inl (by simp only[execOp,B',r1,D',E2]),iz.same h r2⟩
 |fieldAddr s x k=>
  let ⟨y,hy,ho⟩:=aq (show ay (dt tm x) (sj E s k)=V (v,us) from gE);let ⟨r,r1,r2⟩:=Ro (new:=new) hE h (val hy) ho;exact ⟨r,w,g,.inl (by simp only[execOp,B',r1,D',E2]),r2⟩
 |field t x k=>
  let ⟨y,hy,ho⟩:=aq (show ay (dt tm x) (DK E t k)=V (v,us) from gE);let ⟨r,r1,r2⟩:=agu (new:=new) hE h (val hy) ho;exact ⟨r,w,g,.inl (by simp only[execOp,B',r1,D',E2]),r2⟩
 |indexAddr t x ix=>
  let ⟨y1,y2,h1,h2,ho⟩:=bT (show cj (dt tm x) (dt tm ix) (λv u=>ay (oE u) λk=>same (rS E t v k))=V (v,us) from gE)
  let ⟨n,ahm,ho⟩:=aq ho;let ⟨z,hz,ho⟩:=aq ho;cases ho;obtain ⟨q,rfl⟩:=wK ahm;have e2:=Mq (val h2);let ⟨r,r1,r2⟩:=TU (w:=w) (kk:=q) hE (val h1) hz;exact ⟨r,w,g,.inl (by simp only[execOp,B',e2,r1,D',E2]),iz.same h r2⟩
 |index t x ix=>
  let ⟨y1,y2,h1,h2,ho⟩:=bT (show cj (dt tm x) (dt tm ix) (λv u=>ay (oE u) λk=>AF E t k v)=V (v,us) from gE)
  let ⟨n,ahm,ho⟩:=aq ho;obtain ⟨q,rfl⟩:=wK ahm;have e2:=Mq (val h2);let ⟨r,r1,r2⟩:=agt (new:=new) (kk:=q) hE h (val h1) ho;exact ⟨r,w,g,.inl (by simp only[execOp,B',e2,r1,D',E2]),r2⟩
 |lookup t x k ok=>
  let ⟨y1,y2,h1,h2,ho⟩:=bT (show cj (dt tm x) (dt tm k) (λa b=>same (wL E f t a b ok))=V (v,us) from gE)
  let ⟨z,hz,ho⟩:=aq ho;cases ho;let ⟨r,r1,r2⟩:=agG hE h (val h1) (val h2) hz;exact ⟨r,w,g,.inl (by simp only[execOp,B',r1,D',E2]),iz.same h r2⟩
 |range t x=>
  let ⟨y,hy,ho⟩:=aq (show ay (dt tm x) (AE E f new t)=V (v,us) from gE);let ⟨r,w',g',r1,r2⟩:=agr hE h hn (val hy) ho;exact ⟨r,w',g',.inl (by simp only[execOp,B',r1,D',E2]),r2⟩
 |next it CT=>
  let ⟨y,hy,ho⟩:=aq (show ay (dt tm it) (Es f CT)=V (v,us) from gE);let ⟨r,w',r1,r2⟩:=alC (new:=new) (ty:=ty) hE h (val hy) ho;exact ⟨r,w',g,.inl (by simp only[execOp,B',r1,D',E2]),r2⟩
 |extract x i=>
  let ⟨y,hy,ho⟩:=aq (show ay (dt tm x) (λv=>ay (SL v) λvs=>same (vs[i]?))=V (v,us) from gE)
  let ⟨vs,yF,ho⟩:=aq ho;let ⟨z,hz,ho⟩:=aq ho;cases ho;obtain rfl:=apG yF;have hv:=val hy;generalize hq:a.eval x=q at hv;cases hv with
  |dq hr=>
   let ⟨u,u1,u2⟩:=hr.get hz;refine ⟨u,w,g,.inl ?_,iz.same h u2⟩;simp only[execOp,hq,Instr.extract];rw[mC] at u1;rw[u1];rfl
 |call c=>
  have ho:pI E tm f new c=V (v,us):=gE;unfold pI at ho;split at ho
  ·rename_i b hb;let ⟨aa,has,ho⟩:=aq ho;let ⟨r,w',g',r1,r2⟩:=Y5 hE h jx hn (ts:=c.argTypes) has ty (c.args.map fun| .const _=>M|_=>B) ho
   refine ⟨r,w',g',.inl ?_,r2⟩;simp only[execOp,resolve,hb,B',E2,D',invoke];exact r1
  ·cases ho
 |_=>cases gE
end
section
variable {E:Env} {g:Gh} {f f':Hf} {w:World} {T T':Tf}
def apC (h:∀t,x= .tmp t->T t=T' t):dt T x=dt T' x:=by
 cases x with
 |tmp t=>exact h t rfl
 |_=>rfl
def yW:∀{xs:List C'},(∀x∈xs,dt T x=dt T' x)->gj T xs=gj T' xs
 | [],_=>rfl
 |x::xs,h=>by
  show cj (dt T x) (gj T xs) _=cj (dt T' x) (gj T' xs) _;rw[h x (by simp),yW λy hy=>h y (by simp[hy])]
def Ep:∀{ps:List (Nat×C')},(∀p∈ps,dt T p.2=dt T' p.2)->mI T ps=mI T' ps
 | [],_=>rfl
 |p::ps,h=>by
  show ay (dt T p.2) (λv=>cj v.cells (mI T ps) _)=ay (dt T' p.2) (λv=>cj v.cells (mI T' ps) _)
  rw[h p (by simp),Ep λq hq=>h q (by simp[hq])]
def Er {x:A C'} (h:∀y,x=V y->dt T y=dt T' y):km T x=km T' x:=by
 cases x with
 |none=>rfl
 |some y=>
  show ay (dt T y) _=ay (dt T' y) _;rw[h y rfl]
def RD {v:SV} (h:xD v=V q):q.1∈lH (V v):=by
 rw[rN h];simp[lH]
def alH {v:SV} (h:∀id∈lH (V v),f id=f' id):rR E f t v=rR E f' t v:=by
 unfold rR;cases hp:xD v with
 |none=>rfl
 |some q=>
  show ay (E.ty.get t) (λi=>ay (jy (f q.1) q.2 (wide i)) _)=ay (E.ty.get t) (λi=>ay (jy (f' q.1) q.2 (wide i)) _)
  rw[h _ (RD hp)]
def aec {v a:SV} (h:∀id∈lH (V a),f id=f' id):xi E f t v a=xi E f' t v a:=by
 unfold xi;cases hp:xD a with
 |none=>rfl
 |some q=>
  show ug (E.ty.get t) v.cells (mM (f q.1)) _=ug (E.ty.get t) v.cells (mM (f' q.1)) _;rw[h _ (RD hp)]
def ahH {x:SV} (h:∀id∈lH (V x),f id=f' id):ahI x f=ahI x f':=by
 cases x<;>first|rfl|(rename_i id;show ay (kZ (f id)) _=ay (kZ (f' id)) _;rw[h id (by simp[lH])])
def abj {x k:SV} (h:∀id∈lH (V x),f id=f' id):wL E f t x k ok=wL E f' t x k ok:=by
 unfold wL;rw[ahH h]
def SK {x k v:SV} (h:∀id∈lH (V x),f id=f' id):Co E f t x k v=Co E f' t x k v:=by
 unfold Co;cases hp:aBh x with
 |none=>rfl
 |some id=>
  have:=aam hp;subst this;show ay (E.ty.get t) (λi=>ay (G0 i.desc) λq=>cj (E.ty.get q.1) (kZ (f id)) _)=ay (E.ty.get t) (λi=>ay (G0 i.desc) λq=>cj (E.ty.get q.1) (kZ (f' id)) _)
  rw[h id (by simp[lH])]
def abi {x:SV} (h:∀id∈lH (V x),f id=f' id):AE E f new t x=AE E f' new t x:=by
 have e:∀D:UD,HU D x f=HU D x f':=by
  intro D;cases D<;>first|rfl|skip
  cases x<;>first|rfl|(rename_i id;show ay (kZ (f id)) _=ay (kZ (f' id)) _;rw[h id (by simp[lH])])
 unfold AE;simp only[e]
def ags {x:SV} (h:∀id∈lH (V x),f id=f' id):Es f CT x=Es f' CT x:=by
 unfold Es;cases hp:alT x with
 |none=>rfl
 |some id=>
  let ⟨q,h1,h2⟩:=aq hp;let ⟨_,h2⟩:=aZ h2;cases h2;show aS CT (ay (Pm (f q.1)) _) G=aS CT (ay (Pm (f' q.1)) _) G;rw[h _ (RD h1)]
def LC {id off n:Nat} (h:f id=f' id):ln f id off n=ln f' id off n:=by unfold ln;rw[h]
def QK {size:Nat} {x:SV} (h:∀id∈lH (V x),f id=f' id):oZ f size x=oZ f' size x:=by
 cases x<;>first
  |rfl
  |(
   rename_i id off n c
   have e:rowOf (.sl id off n c) f size=rowOf (.sl id off n c) f' size:=LC (h id (by simp[lH]))
   show BH f size (.sl id off n c)=BH f' size (.sl id off n c)
   unfold BH
   rw[e])
def alS {s:SV} {size m:Nat} {xs:bf} (h:∀id∈lH (V s),f id=f' id):r9 s f new e size m xs=r9 s f' new e size m xs:=by
 cases s<;>first
  |rfl
  |(
   rename_i id off n c
   show Gu f new e size m xs id off n c=Gu f' new e size m xs id off n c
   unfold Gu
   rw[h id (by simp[lH]),LC (h id (by simp[lH]))])
def abm {s x:SV} (h1:∀id∈lH (V s),f id=f' id) (h2:∀id∈lH (V x),f id=f' id):mP E f new t s x=mP E f' new t s x:=by
 unfold mP PD;have e1:∀size,oZ f size x=oZ f' size x:=λsize=>QK h2
 have e2:∀e size m xs,r9 s f new e size m xs=r9 s f' new e size m xs:=λe size m xs=>alS h1
 simp only[e1,e2]
def ahO {d:SV} {size n:Nat} {xs:bf} (h:∀id∈lH (V d),f id=f' id):E1 d f size n xs=E1 d f' size n xs:=by
 cases d<;>first
  |rfl
  |(
   rename_i id off m c
   show Iu f size n xs id off=Iu f' size n xs id off
   unfold Iu
   rw[h id (by simp[lH])])
def alP {d s:SV} (h1:∀id∈lH (V d),f id=f' id) (h2:∀id∈lH (V s),f id=f' id):Bm E f t d s=Bm E f' t d s:=by
 unfold Bm arQ;have e1:∀size,oZ f size s=oZ f' size s:=λsize=>QK h2
 have e2:∀size m xs,E1 d f size m xs=E1 d f' size m xs:=λsize m xs=>ahO h1
 simp only[e1,e2]
def aqF {D:UD} {x:SV} (h:∀id∈lH (V x),f id=f' id):Cy D x f=Cy D x f':=by
 cases D<;>first
  |rfl
  |(
   show aBo x f=aBo x f'
   cases x<;>first|rfl|(rename_i id;show ay (kZ (f id)) _=ay (kZ (f' id)) _;rw[h id (by simp[lH])]))
def vO (hx:x∈xs) {id:Nat} (h:id∈lH (dt T x)):id∈qS T xs:=by
 induction xs with
 |nil=>simp at hx
 |cons y ys ih=>
  show id∈lH (dt T y)++qS T ys;rw[eV];rcases da.1 hx with rfl|hx
  ·exact .inl h
  ·exact .inr (ih hx)
def ahb:∀{xs:List C'} {aa:bf},gj T xs=V aa->∀a∈aa,∀id∈lH (V a),id∈qS T xs
 | [],aa,h,a,ha,_,_=>by cases h;simp at ha
 |x::xs,aa,h,a,ha,id,jw=>by
  let ⟨v,l,h1,h2,h3⟩:=bT h;cases h3;show id∈lH (dt T x)++qS T xs;rw[eV];rcases da.1 ha with rfl|ha
  ·rw[h1];exact .inl jw
  ·exact .inr (ahb h2 a ha id jw)
def aap:∀{xs:List C'} {aa:bf},gj T xs=V aa->∀a∈aa,∀id∈idM (V a),id∈J7 T xs
 | [],aa,h,a,ha,id,jw=>by
  have h:V []=V aa:=h;cases h;cases ha
 |x::xs,aa,h,a,ha,id,jw=>by
  let ⟨v,l,h1,h2,h3⟩:=bT (show cj (dt T x) (gj T xs) (λv l=>V (v::l))=V aa from h)
  cases h3;show id∈idM (dt T x)++J7 T xs;rcases da.1 ha with e|ha
  ·rw[h1,<-e];exact iu _ jw
  ·exact jo _ (aap h2 a ha id jw)
def aLx (b:Builtin):Bool:=match b with| .len=>M|_=>B
def alI {D:UD} {x:SV} (h:∀id∈idM (V x),f id=f' id):Cy D x f=Cy D x f':=by
 cases x<;>first|exact aqF h|(cases D<;>rfl)
def awO {op:Op} (hT:∀x∈op.operands.toList,dt T x=dt T' x) (hf:∀id∈O6 op T,f id=f' id):ux E op T f new=ux E op T' f' new:=by
 have uy:∀(x:C') (k:SV->gN),x∈op.operands.toList->one T x k=one T' x k:=λx k hx=>by unfold one;rw[hT x hx]
 have LZ:∀(x y:C') (k:SV->SV->gN),x∈op.operands.toList->y∈op.operands.toList->two T x y k=two T' x y k:=λx y k hx hy=>by unfold two;rw[hT x hx,hT y hy]
 have Y6:∀(x:C') (k k':SV->gN),x∈op.operands.toList->(∀v,dt T x=V v->k v=k' v)->one T x k=one T' x k':=λx k k' hx hk=>by
  rw[<-uy x k' hx];unfold one;cases hv:dt T x with
  |none=>rfl
  |some v=>exact hk v hv
 have apF:∀(x y:C') (k k':SV->SV->gN),x∈op.operands.toList->y∈op.operands.toList->(∀v u,dt T x=V v->dt T y=V u->k v u=k' v u)->two T x y k=two T' x y k':=λx y k k' hx hy hk=>by
  rw[<-LZ x y k' hx hy];unfold two;cases hv:dt T x with
  |none=>rfl
  |some v=>
   cases hu:dt T y with
   |none=>rfl
   |some u=>exact hk v u hv hu
 cases op with
 |move x=>exact uy x _ (by simp[I'])
 |assign x=>exact uy x _ (by simp[I'])
 |pick c x y=>
  show ay (dt T c) (λv=>ay (uH v) λb=>one T (aS b x y) _)=ay (dt T' c) (λv=>ay (uH v) λb=>one T' (aS b x y) _)
  rw[hT c (by simp[I'])]
  congr 1;funext v;congr 1;funext b;cases b
  ·exact uy y _ (by simp[I'])
  ·exact uy x _ (by simp[I'])
 |alloc e=>rfl
 |box e x=>exact uy x _ (by simp[I'])
 |build t ps=>
  show ay (mI T ps.toList) _=ay (mI T' ps.toList) _;rw[Ep λp hp=>hT p.2 (by simp[I'];exact ⟨p.1,by simpa using hp⟩)]
 |buildSlice t n ps=>
  show ay (mI T ps.toList) _=ay (mI T' ps.toList) _;rw[Ep λp hp=>hT p.2 (by simp[I'];exact ⟨p.1,by simpa using hp⟩)]
 |insert t m k x=>
  refine apF m k _ _ (by simp[I']) (by simp[I']) λv u hv hu=>Y6 x _ _ (by simp[I']) λc hc=> ?_
  rw[SK λid jw=>hf id (vO (xs:= [m,k,x]) (x:=m) (by simp) (by rw[hv];exact jw))]
 |mapUpdate t m k x=>
  refine apF m k _ _ (by simp[I']) (by simp[I']) λv u hv hu=>Y6 x _ _ (by simp[I']) λc hc=> ?_
  rw[SK λid jw=>hf id (vO (xs:= [m,k,x]) (x:=m) (by simp) (by rw[hv];exact jw))]
 |load t x=>
  refine Y6 x _ _ (by simp[I']) λv hv=> ?_
  rw[alH λid jw=>hf id (vO (xs:= [x]) (x:=x) (by simp) (by rw[hv];exact jw))]
 |store t x y=>
  refine apF x y _ _ (by simp[I']) (by simp[I']) λv u hv hu=> ?_
  rw[aec λid jw=>hf id (vO (xs:= [x,y]) (x:=x) (by simp) (by rw[hv];exact jw))]
 |nilCheck x=>exact uy x _ (by simp[I'])
 |binOp op t x y yt=>exact LZ x y _ (by simp[I']) (by simp[I'])
 |unOp op t x=>exact uy x _ (by simp[I'])
 |convert s d x=>exact uy x _ (by simp[I'])
 |makeFunc fn a c=>
  show aS (agv fn) (cj (gj T a.toList) (gj T c.toList) _) G=aS (agv fn) (cj (gj T' a.toList) (gj T' c.toList) _) G;rw[yW λx hx=>hT x (by simp[I'];exact .inl (by simpa using hx)),yW λx hx=>hT x (by simp[I'];exact .inr (by simpa using hx))]
 |makeMap t r=>
  cases r with
  |none=>rfl
  |some x=>
   show cj (E.ty.get t) (dt T x) _=cj (E.ty.get t) (dt T' x) _;rw[hT x (by simp[I'])]
 |makeSlice t l c=>exact LZ l c _ (by simp[I']) (by simp[I'])
 |slice t x lo hi mx=>
  refine Y6 x _ _ (by simp[I']) λv hv=> ?_
  rw[Er (x:=lo) λy hy=>hT y (by subst hy;simp[I']),Er (x:=hi) λy hy=>hT y (by subst hy;simp[I']),Er (x:=mx) λy hy=>hT y (by subst hy;simp[I'])]
 |fieldAddr s x k=>exact uy x _ (by simp[I'])
 |field t x k=>exact uy x _ (by simp[I'])
 |indexAddr t x ix=>exact LZ x ix _ (by simp[I']) (by simp[I'])
 |index t x ix=>exact LZ x ix _ (by simp[I']) (by simp[I'])
 |lookup t x k ok=>
  refine apF x k _ _ (by simp[I']) (by simp[I']) λv u hv hu=> ?_
  rw[abj λid jw=>hf id (vO (xs:= [x,k]) (x:=x) (by simp) (by rw[hv];exact jw))]
 |range t x=>
  refine Y6 x _ _ (by simp[I']) λv hv=> ?_
  exact abi λid jw=>hf id (vO (xs:= [x]) (x:=x) (by simp) (by rw[hv];exact jw))
 |next it CT=>
  refine Y6 it _ _ (by simp[I']) λv hv=> ?_
  exact ags λid jw=>hf id (vO (xs:= [it]) (x:=it) (by simp) (by rw[hv];exact jw))
 |extract x i=>exact uy x _ (by simp[I'])
 |call c=>
  show pI E T f new c=pI E T' f' new c;unfold pI;split
  ·rename_i b hb;have ev:gj T c.args.toList=gj T' c.args.toList:=yW λx hx=>hT x (by simp[I',Call.operands,hb];simpa using hx)
   rw[<-ev];cases hv:gj T c.args.toList with
   |none=>rfl
   |some aa=>
    have hid0:vT c=B->∀a∈aa,∀id∈lH (V a),f id=f' id:=λhl a ha id h=>hf id (by
     show id∈aS (vT c) (J7 T c.args.toList) (qS T c.args.toList);rw[hl];exact ahb hv a ha id h)
    have hidM:vT c=M->∀a∈aa,∀id∈idM (V a),f id=f' id:=λhl a ha id h=>hf id (by
     show id∈aS (vT c) (J7 T c.args.toList) (qS T c.args.toList);rw[hl];exact aap hv a ha id h)
    have aBq:vT c=aLx b:=by unfold vT;rw[hb];cases b<;>rfl
    show nK E f new b aa _=nK E f' new b aa _;have e1:vT c=B->∀t p,xW aa=V p->mP E f new t p.1 p.2=mP E f' new t p.1 p.2:=λhl t p h1=>by
     have jw:=hid0 hl;have hp:=vZ h1;exact abm (jw p.1 (by rw[hp];simp)) (jw p.2 (by rw[hp];simp))
    have e2:vT c=B->∀t p,xW aa=V p->Bm E f t p.1 p.2=Bm E f' t p.1 p.2:=λhl t p h1=>by
     have jw:=hid0 hl;have hp:=vZ h1;exact alP (jw p.1 (by rw[hp];simp)) (jw p.2 (by rw[hp];simp))
    have e3:vT c=M->∀D x,aa.head? =V x->Cy D x f=Cy D x f':=λhl D x h1=>alI (hidM hl x (List.mem_of_head? h1))
    unfold nK;cases b<;>(first|(have e1:=e1 aBq;have e2:=e2 aBq)|(have e3:=e3 aBq))<;>first
     |rfl
     |(
      simp only
      generalize hq:xW aa=q at e1 e2
      cases q with
      |none=>rfl
      |some p=>first|(simp only[cj,e1 _ p rfl];done)|(simp only[cj,e2 _ p rfl];done))
     |(
      simp only
      generalize hq:aa.head? =q at e3
      cases q with
      |none=>rfl
      |some p=>simp only[cj,e3 _ p rfl])
  ·rfl
 |_=>rfl
end
section
variable {E:Env} {g:Gh} {f:Hf} {w:World}
variable {Q:Exit->Act->World->Prop} {nx':Nat}
def wV (ro:cB):Fence:={fn:=λ_=>True,depth:=G,alive:=B,round:=ro}
def eN (T:Tf) (d:cB) (v:SV):Tf:=λt=>if d=V t then V v else T t
def aCK {nt d:Nat} (h:nA nt (V d)=M):d<nt:=(bN _ _).1 h
def FR.put {nt:Nat} {T:Tf} {a:Act} (h:FR g nt T a.tmps) {d:cB} (hd:nA nt d=M) {v:SV} (hv:VR g r v):FR g nt (eN T d v) (a.put d r).tmps:=by
 cases d with
 |none=>
  refine ⟨h.sz,λt x hx=>h.tm t x ?_⟩
  simpa[eN] using hx
 |some d=>
  have dz:=aCK hd;refine ⟨by simpa[Act.put] using h.sz,λt x hx=> ?_⟩
  simp only[eN,WX] at hx;show VR g ((a.tmps.setIfInBounds d r).getD t undef) x;simp only[uO,adM];split at hx
  ·rename_i e;subst e;obtain rfl:v=x:=by simpa using hx
   have:d<a.tmps.size:=by rw[h.sz];exact dz
   simpa[this] using hv
  ·rename_i e;rw[aC e];have:=h.tm t x hx;simpa[uO] using this
def put_defers (a:Act) (d:cB) (r:BL):(a.put d r).defers=a.defers:=by cases d<;>rfl
def FJ:∀(l:nS) (j:Nat),Mp l j=(l[j]?).bind (·.dst)
 | [],j=>by simp;rfl
 |o::l,0=>rfl
 |o::l,j+1=>by
  show Mp l j=_;rw[FJ l j];simp
def Ba {nt:Nat} {T:Tf} {a:Act} (h:FR g nt T a.tmps) {all:eY} {b:Bool} (hw:kq all.toList o T=V b):ab8 o (yielded all a.tmps)=b:=by
 unfold kq at hw;unfold ab8;cases hg:o.guard with
 |none=>rw[hg] at hw;cases hw;rfl
 |some p=>
  let ⟨j,want⟩:=p;rw[hg] at hw;have hw:yi all.toList T j want=V b:=hw;unfold yi at hw;rw[FJ,mC] at hw;simp only[yielded];cases hd:(all[j]?).bind (·.dst) with
  |none=>
   rw[hd] at hw;cases hw;simp
  |some t=>
   rw[hd] at hw;let ⟨x,hx,hw⟩:=aq (show ay (T t) (apB want)=V b from hw);have hv:=h.tm t x hx;simp only[ak];rw[uO] at hv;cases ht:a.tmps[t]? with
   |none=>
    rw[ht] at hv;simp only[Hx] at hv;have hu:(undef:BL)= .tuple #[]:=rfl;rw[hu] at hv;cases hv with
    |dq _=>cases hw;rfl
    |undef _=>cases hw
   |some u=>
    rw[ht] at hv;simp only[Af] at hv;cases hv<;>first
     |(cases hw;rfl)
     |(rename_i c;cases hw;cases c<;>cases want<;>rfl)
     |cases hw
def sm (D:Nat->Bool) (H f:Hf):Hf:=λx=>if D x=M then H x else f x
def Uy (E:Env) (ro:cB) (nt:Nat) (all:eY) (i:Nat) (o:N') (T:Tf) (need:Nat->Prop) (H:Hf) (frp newp:Nat->Prop) (v:SV) (D:Nat->Bool) (H':Hf):Prop:=
 ∀(m:Nat) (g:Gh) (f:Hf) (T1:Tf) (a:Act) (w:World) (K:Act->World->Prop) (Q:Exit->Act->World->Prop),fR E g->FR g nt T1 a.tmps->HR g f w->(∀t∈o.looksAt all,T1 t=T t)->(∀x,need x->f x=H x)->(∀x,frp x->g.O x=G)->
  (∀r w' g',FR g' nt (eN T1 o.dst v) (a.put o.dst r).tmps->HR g' (sm D H' f) w'->Fr g f w g' (sm D H' f) w'->(∀x,¬newp x->g'.O x=g.O x)->K (a.put o.dst r) w')->
  wpOpIn (wV ro) m E.P all Q i K a w
def Lw {all:eY} {T T1:Tf} (h:∀t∈o.looksAt all,T1 t=T t):∀x∈o.op.operands.toList,dt T1 x=dt T x:=λx hx=>apC λt ht=>h t (by
 subst ht;exact iu _ (On.2 ⟨.tmp t,hx,rfl⟩))
def Cn {all:eY} {T T1:Tf} (h:∀t∈o.looksAt all,T1 t=T t):kq all.toList o T1=kq all.toList o T:=by
 unfold kq;cases hg:o.guard with
 |none=>rfl
 |some p=>
  show yi all.toList T1 p.1 p.2=yi all.toList T p.1 p.2;unfold yi;rw[FJ,mC];cases hd:(all[p.1]?).bind (·.dst) with
  |none=>rfl
  |some t=>
   show ay (T1 t) _=ay (T t) _;rw[h t (by simp[Oper.looksAt,hg,hd])]
def D4:∀(us:hJ) (H f:Hf) (x:Nat),hZ f us x=if x∈us.map (·.1) then hZ H us x else f x
 | [],H,f,x=>by simp[hZ]
 |u::us,H,f,x=>by
  show hZ (jB f u) us x=if x∈(u::us).map (·.1) then hZ (jB H u) us x else f x
  rw[D4 us (jB H u) (jB f u) x];by_cases h1:x∈us.map (·.1)
  ·rw[aF h1,aF (by simp at h1 ⊢;exact .inr h1)]
  ·rw[aC h1];by_cases h2:x=u.1
   ·rw[aF (by simp[h2])]
    rw[D4 us (jB f u) (jB H u) x,aC h1];simp[jB,h2]
   ·rw[aC (by simp at h1 ⊢;exact ⟨h2,h1⟩)]
    simp[jB,h2]
def Dm {ro:cB} {a:Act} (P:E') (w:World):∀k,o.about P w a.eval=V k->(wV ro).fn k:=λ_ _=>trivial
def alp {ro:cB} {nt:Nat} {all:eY} {T:Tf} {H:Hf} {v:SV} {us:hJ} (hi:all[i]? =V o) (hw:kq all.toList o T=V M) (hd:nA nt o.dst=M) (ho:ux E o.op T H new=V (v,us)) (hH:H new=G) (hD:∀x,D x=M↔(x∈us.map (·.1)\/x=new)) (F0:∀c,o.op≠ .defer c):
  Uy E ro nt all i o T (λx=>x∈O6 o.op T) H (λx=>x=new) (λx=>x=new/\us≠ []) v D (hZ H us):=by
 intro m g f T1 a w K Q hE jx hr hT Kf rl hk;have e1:ux E o.op T1 f new=V (v,us):=by
  rw[<-ho];refine (awO (λx hx=>(Lw hT x hx).symm) (λid jw=>(Kf id jw).symm)).symm
 have hn:=rl new rfl;let ⟨r,w',g',rk,hp⟩:=aBc hE hr jx hn e1;have RJ:hZ f us=sm D (hZ H us) f:=by
  funext x;unfold sm;rw[D4 us H f x];by_cases h1:x∈us.map (·.1)
  ·rw[aF h1,aF ((hD x).2 (.inl h1))]
  ·rw[aC h1];by_cases h2:x=new
   ·rw[aF ((hD x).2 (.inr h2)),D4 us f H x,aC h1,h2,hH,hr.HZ hn]
   ·rw[aC (λh=>by rcases (hD x).1 h with h|h;exact h1 h;exact h2 h)]
 have hkk:=hk r w' g' ((jx.mono hp.fr.le).put hd hp.val) (RJ ▸ hp.hr) (RJ ▸ hp.fr) (λx hx=>by
  by_cases hu:us= []
  ·rw[hp.nil hu]
  ·exact hp.ro x (λhe=>hx ⟨he,hu⟩))
 unfold wpOpIn;rw[hi];simp only;rw[aF (Ba jx (by rw[Cn hT];exact hw))]
 refine ⟨Dm E.P w,?_⟩;rw[Oper.semAt_eq _ _ _ F0];rcases rk with h1|⟨h1,rfl⟩
 ·rw[h1];exact hkk
 ·rw[h1];exact hkk
def step_skip {ro:cB} {nt:Nat} {all:eY} {T:Tf} {H:Hf} (hi:all[i]? =V o) (hw:kq all.toList o T=V B) (hd:nA nt o.dst=M) (hH:H new=G) (hD:∀x,D x=M↔x=new):
  Uy E ro nt all i o T (λ_=>False) H (λx=>x=new) (λ_=>False) (.dq []) D H:=by
 intro m g f T1 a w K Q hE jx hr hT Kf rl hk;have hn:=rl new rfl;have RJ:f=sm D H f:=by
  funext x;unfold sm;by_cases h2:x=new
  ·rw[aF ((hD x).2 h2),h2,hH,hr.HZ hn]
  ·rw[aC (λh=>h2 ((hD x).1 h))]
 have hkk:=hk undef w g (jx.put hd (.dq .nil)) (RJ ▸ hr) (RJ ▸ Fr.refl g f w) (λ_ _=>rfl)
 unfold wpOpIn;rw[hi];simp only;have hwn:=Ba jx (by rw[Cn hT];exact hw)
 rw[aC (by rw[hwn];simp)]
 exact ⟨Dm E.P w,hkk⟩
def UH (P : E') (m : Nat) (u : BL) (us : jP) (w : World) (K : Ending -> World -> Prop) : Prop :=
  ∃ d, (Deferred.ofValue u us).run P w = .ok d w /\
    ((∃ k aa, (invoke d.target d.args).run P w = .ok (.enter k aa) w /\ CallsIn aa6 m P k aa w K) \/
      (∃ l k tmps aa bo, (invoke d.target d.args).run P w = .ok (.round l k tmps aa bo) w /\ RoundIn aa6 m P l k tmps aa bo w K) \/
      (∃ r w', (invoke d.target d.args).run P w = .ok (.value r) w' /\ K (.returned r) w'))
def UH.mono {P:E'} {m:Nat} {us:jP} {w:World} {K K':Ending->World->Prop} (h:UH P m u us w K) (hk:∀e w',K e w'->K' e w'):UH P m u us w K':=by
 let ⟨d,h1,h2⟩:=h;refine ⟨d,h1,?_⟩;rcases h2 with ⟨k,aa,q1,q2⟩|⟨l,k,t,aa,bo,q1,q2⟩|⟨r,w',q1,q2⟩
 ·exact .inl ⟨k,aa,q1,CallsIn.mono q2 hk⟩
 ·exact .inr (.inl ⟨l,k,t,aa,bo,q1,RoundIn.mono q2 hk⟩)
 ·exact .inr (.inr ⟨r,w',q1,hk _ _ q2⟩)
def abR (z6:Bool) (u:BL):Ending:=if z6=M then .panicked [{v:=u,recovered:=B}] else .returned u
def rE (E:Env) (z6:Bool) (fv:SV) (aa:bf) (H:Hf) (nx:Nat) (v:SV) (H':Hf) (nx':Nat):Prop:=
 ∀(m:Nat) (g:Gh) (w:World) (u:BL) (us:fM),fR E g->HR g H w->(∀x,nx<=x->g.O x=G)->VR g u fv->nD g us aa->
  UH E.P m u us.toArray w λe w'=>∃r,e=abR z6 r/\∃g',VR g' r v/\HR g' H' w'/\Fr g H w g' H' w'/\(∀x,x<nx->g'.O x=g.O x)/\∀x,nx'<=x->g'.O x=G
def arq {H H':Hf} {g':Gh} (hr:HR g f w) (G4:∀x o,H x=V o->f x=V o) (aho:∀x,nx<=x->g.O x=G) (jf:HR g' H' w') (hf:Fr g H w g' H' w') (BU:∀x,x<nx->g'.O x=g.O x) (hD:∀x,D x=B->x<nx->H' x=H x) (hD2:∀x,D x=B->nx<=x->H' x=G):HR g' (sm D H' f) w'/\Fr g f w g' (sm D H' f) w':=by
 have MW:∀x,nx<=x->f x=G:=λx hx=>hr.HZ (aho x hx)
 have other:∀x o,D x=B->f x=V o->H x=G->∃b c,g.O x=V (b,c)/\b<w.heap.size/\OR g w x b c o/\¬asW g H b:=by
  intro x o hd hx hn;let ⟨b,c,q1,q2,q3⟩:=hr.ob x o hx;refine ⟨b,c,q1,q2,q3,λ⟨id,o',c',h1,h2⟩=> ?_⟩
  have:=hr.inj id x o' o b c' c (G4 id o' h1) hx h2 q1;subst this;rw[hn] at h1;simp at h1
 have Pd:∀x o,f x=V o->x<nx:=λx o hx=>by
  by_cases h:nx<=x
  ·rw[MW x h] at hx;simp at hx
  ·omega
 have cls:∀x o,sm D H' f x=V o->H' x=V o\/(D x=B/\f x=V o/\H x=G):=by
  intro x o hx;unfold sm at hx;split at hx
  ·exact .inl hx
  ·rename_i hd;have hd:D x=B:=by simpa using hd
   cases hh:H x with
   |none=>exact .inr ⟨hd,hx,rfl⟩
   |some o'=>
    have:=G4 x o' hh;rw[hx] at this;cases this;exact .inl ((hD x hd (Pd x o hx)).trans hh)
 refine ⟨⟨λx o hx=> ?_,λi j x y b c d hx hy e1 e2=> ?_⟩,⟨hf.os,hf.tape,hf.output,hf.size,hf.le,λb hb hn=>hf.old b hb (λ⟨id,o,c,h1,h2⟩=>hn ⟨id,o,c,G4 id o h1,h2⟩),λb hb hm=> ?_⟩⟩
 ·rcases cls x o hx with h1|⟨h1,h2,h3⟩
  ·exact jf.ob x o h1
  ·let ⟨b,c,q1,q2,q3,q4⟩:=other x o h1 h2 h3;exact ⟨b,c,(BU x (Pd x o h2)).trans q1,Bv q2 hf.size,q3.mono hf.le q1 (hf.old b q2 q4)⟩
 ·have aGJ:∀p q z z' b c d,H' p=V z->D q=B->f q=V z'->H q=G->g'.O p=V (b,c)->g'.O q=V (b,d)->False:=by
   intro p q z z' b c d h1 h2 h3 h4 e1 e2;let ⟨b',c',q1,q2,q3,q4⟩:=other q z' h2 h3 h4;rw[BU q (Pd q z' h3),q1] at e2;cases e2;exact q4 (hf.own _ q2 ⟨p,z,c,h1,e1⟩)
  rcases cls i x hx with h1|⟨h1,h2,h3⟩<;>rcases cls j y hy with k1|⟨k1,k2,k3⟩
  ·exact jf.inj i j x y b c d h1 k1 e1 e2
  ·exact (aGJ i j x y b c d h1 k1 k2 k3 e1 e2).elim
  ·exact (aGJ j i y x b d c k1 h1 h2 h3 e2 e1).elim
  ·rw[BU i (Pd i x h2)] at e1;rw[BU j (Pd j y k2)] at e2;exact hr.inj i j x y b c d h2 k2 e1 e2
 ·let ⟨x,o,c,hx,e⟩:=hm;rcases cls x o hx with h1|⟨h1,h2,h3⟩
  ·let ⟨id,o',c',q1,q2⟩:=hf.own b hb ⟨x,o,c,h1,e⟩;exact ⟨id,o',c',G4 id o' q1,q2⟩
  ·rw[BU x (Pd x o h2)] at e;exact ⟨x,o,c,h2,e⟩
def anu {ro:cB} {nt:Nat} {all:eY} {c:Call} {T T1:Tf} {H:Hf} {fv:SV} {aa:bf} {nx m:Nat} {a:Act} (hi:all[i]? =V o) (hw:kq all.toList o T=V M) (gC:o.op= .call c) (hc:AU T c.callee=V fv) (has:gj T c.args.toList=V aa) (jx:FR g nt T1 a.tmps) (hT:∀t∈o.looksAt all,T1 t=T t) (hs:∀(u:BL) (us:fM),VR g u fv->nD g us aa->UH E.P (m-1) u us.toArray w KE) (hk:∀e w',KE e w'->∃z6 r,e=abR z6 r/\(z6=B->K (a.put o.dst r) w')/\(z6=M->Q (.panic [{v:=r,recovered:=B}]) a w')):
  wpOpIn (wV ro) m E.P all Q i K a w:=by
 obtain ⟨x,hx⟩:∃x,c.callee= .value x:=by
  cases hcc:c.callee with
  |value x=>exact ⟨x,rfl⟩
  |_=>rw[hcc] at hc;cases hc
 have aBW:=Lw hT;rw[gC] at aBW;have hfv:dt T1 x=V fv:=by
  rw[aBW x (by simp[I',Call.operands,hx])]
  rw[hx] at hc;exact hc
 have hva:gj T1 c.args.toList=V aa:=by
  rw[<-has];exact yW λy hy=>aBW y (by simp[I',Call.operands,hx];exact .inr (by simpa using hy))
 have hu:=tG jx hfv;have oA:=BB jx hva;let ⟨d,EL,hd2⟩:=hs (a.eval x) (c.args.toList.map a.eval) hu oA;have RH:(resolve a.eval c o.type).run E.P w= .ok d w:=by
  simp only[resolve,hx];have:c.args.map a.eval=(c.args.toList.map a.eval).toArray:=KF (by simp)
  rw[this];exact EL
 have fin:∀e w',KE e w'->(match e,w' with
   | .returned v,LW=>K (a.put o.dst v) LW
   | .panicked chain,LW=>Q (.panic chain) a LW
   | .outgrown,_=>LetsOut Q):=by
  intro e w' he;obtain ⟨z6,r,rfl,h1,h2⟩:=hk e w' he;cases z6 with
  |false=>exact h1 rfl
  |true=>exact h2 rfl
 unfold wpOpIn;rw[hi];simp only;rw[aF (Ba jx (by rw[Cn hT];exact hw))]
 refine ⟨Dm E.P w,?_⟩;rw[Oper.semAt_eq _ _ _ (λc' h=>by rw[gC] at h;cases h)]
 have hex:(execOp a.eval o).run E.P w=(invoke d.target d.args).run E.P w:=by
  simp only[execOp,gC,B',RH,D']
 rw[hex];rcases hd2 with ⟨k,as',h1,h2⟩|⟨l,k,tmps,as',bo,h1,h2⟩|⟨r,w',h1,h2⟩
 ·rw[h1];refine ⟨λh=>by simp[wV] at h,?_⟩
  refine CallsIn.mono (F:=wV ro) (show CallsIn (wV ro) (m-1) E.P k as' w _ from h2) ?_;intro e w' he;have:=fin e w' he;cases e<;>exact this
 ·rw[h1];refine ⟨λh=>by simp[wV] at h,?_⟩
  refine RoundIn.mono (F:=wV ro) (show RoundIn (wV ro) (m-1) E.P l k tmps as' bo w _ from h2) ?_;intro e w' he;have:=fin e w' he;cases e<;>exact this
 ·rw[h1];exact fin _ w' h2
def auY {ro:cB} {nt:Nat} {all:eY} {c:Call} {T:Tf} {H H':Hf} {fv v:SV} {aa:bf} (hi:all[i]? =V o) (hw:kq all.toList o T=V M) (hd:nA nt o.dst=M) (gC:o.op= .call c) (hc:AU T c.callee=V fv) (has:gj T c.args.toList=V aa) (hs:rE E B fv aa H nx v H' nx') (hD:∀x,D x=B->x<nx->H' x=H x) (hD2:∀x,D x=B->nx<=x->H' x=G):
  Uy E ro nt all i o T (λx=>H x≠G) H (λx=>nx<=x) (λx=>nx<=x/\x<nx') v D H':=by
 intro m g f T1 a w K Q hE jx hr hT Kf rl hk;have G4:∀x y,H x=V y->f x=V y:=λx y hx=>by rw[Kf x (by show H x≠G;rw[hx];simp),hx]
 have xt:HR g H w:=hr.sub G4;refine anu (g:=g) (H:=H) (nx:=nx) hi hw gC hc has jx hT (λu us hu oA=>hs (m-1) g w u us hE xt (λy hy=>rl y hy) hu oA) ?_
 rintro e w' ⟨r,rfl,g',h1,h2,h3,h4,h5⟩;refine ⟨B,r,rfl,λ_=> ?_,λh=>by cases h⟩
 let ⟨q1,q2⟩:=arq hr G4 (λy hy=>rl y hy) h2 h3 h4 hD hD2
 exact hk r w' g' ((jx.mono h3.le).put hd h1) q1 q2 (λx hx=>by
  by_cases hl:x<nx
  ·exact h4 x hl
  ·rw[h5 x (by omega),rl x (by show nx<=x;omega)])
end
section
variable {E:Env} {g:Gh} {f:Hf} {w:World}
structure DS where
 T:Tf
 F:Hf
structure Stp where
 dst:cB
 v:SV
 D:Nat->Bool
 H:Hf
def DS.app (s:DS) (u:Stp):DS:=⟨eN s.T u.dst u.v,sm u.D u.H s.F⟩
def mZ (us:Nat->Stp) (l:bP) (p:Nat->Bool) (s:DS):DS:=(l.filter p).foldl (λs j=>s.app (us j)) s
def abp (us:Nat->Stp) (t:Nat) (p q:Nat->Bool):∀(l:bP) (s s2:DS),s.T t=s2.T t->(∀j∈l,(us j).dst=V t->p j=q j)->(mZ us l p s).T t=(mZ us l q s2).T t
 | [],s,s2,h,_=>h
 |j::l,s,s2,h,hpq=>by
  have tZ:=λs s2 hs=>abp us t p q l s s2 hs (λi hi=>hpq i (dW _ hi))
  have Kg:∀s:DS,(s.app (us j)).T t=if (us j).dst=V t then V (us j).v else s.T t:=λs=>rfl
  unfold mZ at tZ ⊢;by_cases hl:(us j).dst=V t
  ·have:=hpq j (by simp) hl
   cases hp:p j
   ·rw[hp] at this;simp only[je,hp,<-this];exact tZ s s2 h
   ·rw[hp] at this;simp only[je,hp,<-this,ax,wA];exact tZ _ _ (by rw[Kg,Kg,aF hl,aF hl])
  ·have key:∀s:DS,(s.app (us j)).T t=s.T t:=λs=>by rw[Kg,aC hl]
   cases hp:p j<;>cases hq:q j<;>simp only[je,hp,hq,ax,wA,az,au]
   ·exact tZ _ _ h
   ·exact tZ _ _ (by rw[key];exact h)
   ·exact tZ _ _ (by rw[key];exact h)
   ·exact tZ _ _ (by rw[key,key];exact h)
def abq (us:Nat->Stp) (x:Nat) (p q:Nat->Bool):∀(l:bP) (s s2:DS),s.F x=s2.F x->(∀j∈l,(us j).D x=M->p j=q j)->(mZ us l p s).F x=(mZ us l q s2).F x
 | [],s,s2,h,_=>h
 |j::l,s,s2,h,hpq=>by
  have tZ:=λs s2 hs=>abq us x p q l s s2 hs (λi hi=>hpq i (dW _ hi))
  have Kg:∀s:DS,(s.app (us j)).F x=if (us j).D x=M then (us j).H x else s.F x:=λs=>rfl
  unfold mZ at tZ ⊢;by_cases hl:(us j).D x=M
  ·have:=hpq j (by simp) hl
   cases hp:p j
   ·rw[hp] at this;simp only[je,hp,<-this];exact tZ s s2 h
   ·rw[hp] at this;simp only[je,hp,<-this,ax,wA];exact tZ _ _ (by rw[Kg,Kg,aF hl,aF hl])
  ·have key:∀s:DS,(s.app (us j)).F x=s.F x:=λs=>by rw[Kg,aC hl]
   cases hp:p j<;>cases hq:q j<;>simp only[je,hp,hq,ax,wA,az,au]
   ·exact tZ _ _ h
   ·exact tZ _ _ (by rw[key];exact h)
   ·exact tZ _ _ (by rw[key];exact h)
   ·exact tZ _ _ (by rw[key,key];exact h)
def DS.ext' {s t:DS} (h1:∀u,s.T u=t.T u) (h2:∀k,s.F k=t.F k):s=t:=by
 cases s;cases t;simp only[DS.mk.injEq];exact ⟨funext h1,funext h2⟩
def aCm (l:Array Bool) (i j:Nat) (h:i<l.size) (d:Bool):(l.setIfInBounds i M).getD j d=if j=i then M else l.getD j d:=by
 simp only[uO,adM];by_cases hj:j=i
 ·subst hj;simp[h]
 ·simp[hj,qp hj]
def direct (ops:eY) (j:Nat):bP:=((ops[j]?).map Ha).getD []
def Ae (ops:eY):Nat->Nat->bP
 |0,_=> []
 |n+1,j=>direct ops j++(direct ops j).flatMap (Ae ops n)
def Dk {ops:eY} {S:Nat->Prop} (hS:∀j,S j->∀i∈direct ops j,S i):∀(n j:Nat),S j->∀i∈Ae ops n j,S i
 |0,_,_,i,hi=>by simp[Ae] at hi
 |n+1,j,hj,i,hi=>by
  simp only[Ae,eV,wy] at hi;rcases hi with hi|⟨k,hk,hi⟩
  ·exact hS j hj i hi
  ·exact Dk hS n k (hS j hj k hk) i hi
def asv {ops:eY} (hS:∀j,S j->∀i∈direct ops j,S i):∀(n j:Nat),(∀i∈direct ops j,S i)->∀i∈Ae ops n j,S i
 |0,_,_,i,hi=>by simp[Ae] at hi
 |n+1,j,hj,i,hi=>by
  simp only[Ae,eV,wy] at hi;rcases hi with hi|⟨k,hk,hi⟩
  ·exact hj i hi
  ·exact Dk hS n k (hj k hk) i hi
def JM {ops:eY}:i∈Region.ready .any ops dF↔i<ops.size/\dF.getD i M=B/\∀j∈direct ops i,dF.getD j B=M:=by
 unfold Region.ready;simp only[mD,Oy,bJ,adP];constructor
 ·rintro ⟨h1,h2,h3⟩;refine ⟨h1,h2,λj hj=> ?_⟩
  unfold direct at hj;rw[By h1] at hj h3;simp only[LP,Af,Ha,dJ,mD] at hj h3;obtain ⟨e,⟨he1,he2⟩,rfl⟩:=hj;rw[Array.all_eq_true'] at h3;have:=h3 e (by simpa using he1)
  simpa[he2] using this
 ·rintro ⟨h1,h2,h3⟩;refine ⟨h1,h2,?_⟩;rw[By h1];simp only[LP,Af];rw[Array.all_eq_true'];intro e he;by_cases hb:Region.binds .any e=M
  ·have:=h3 e.on (by
    unfold direct;rw[By h1];simp only[LP,Af,Ha,dJ,mD];exact ⟨e,⟨by simpa using he,hb⟩,rfl⟩)
   simp[this]
  ·simp[hb]
def HR.Zp (h:HR g f w) (he:w'.heap=w.heap):HR g f w':=
 ⟨λid o ho=>by
  let ⟨b,c,q1,q2,q3⟩:=h.ob id o ho;exact ⟨b,c,q1,by rw[he];exact q2,q3.mono (.refl _) q1 (by rw[he])⟩,h.inj⟩
def Fr.Zp (he:w'.heap=w.heap) (h1:w'.os=w.os) (h2:w'.tape=w.tape) (h3:w'.output=w.output):Fr g f w g f w':=
 ⟨h1,h2,h3,by rw[he];exact cS _,.refl _,λb _ _=>by rw[he],λ_ _ h=>h⟩
structure Ind (ops:eY) (us:Nat->Stp) (need:Nat->Nat->Prop) (i j:Nat):Prop where
 s1:∀t,(us i).dst=V t->∀o,ops[j]? =V o->t∉o.looksAt ops
 s2:∀t,(us j).dst=V t->∀o,ops[i]? =V o->t∉o.looksAt ops
 s3:∀t,(us i).dst=V t->(us j).dst≠V t
 d:∀x,(us i).D x=M->(us j).D x=B
 n1:∀x,need j x->(us i).D x=B
 n2:∀x,need i x->(us j).D x=B
end
section
variable {E:Env} {g:Gh} {f:Hf} {w:World}
def tT (x:Nat):∀(l:bP),mW x l=M↔x∈l
 | []=>by simp[mW]
 |y::l=>by
  unfold mW;rw[cI,beq_eq];by_cases h:x=y
  ·simp[h]
  ·simp only[h,aR,az,au,da,false_or];exact tT x l
def alZ:∀(xs:List C'),aea xs=xs.filterMap fun| .tmp t=>V t|_=>G
 | []=>rfl
 |x::xs=>by
  have ih:=alZ xs;cases x<;>simp[aea,ih]
def agH (ops:eY) (o:N'):looks ops.toList o=o.looksAt ops:=by
 unfold looks Oper.looksAt;rw[alZ];cases hg:o.guard with
 |none=>rfl
 |some p=>
  let ⟨j,b⟩:=p;simp only[FJ,mC];rfl
end
section
variable {E:Env} {g:Gh} {w:World} {nt W base:Nat} {ops:eY}
end
section
variable {E:Env} {g:Gh} {f:Hf} {w:World} {T:Tf}
end
section
variable {E:Env} {g:Gh} {f:Hf} {w:World}
def TD (F:Fence) (n:Nat) (P:E') (c:Mn) (Q:Exit->Act->World->Prop) (a:Act) (w:World):Prop:=
 ∀(b:Frame) (k:List Item) (cs:List Frame),b.roundOf=F.round->F.fn b.fn->F.room (cs.length+1+n)->
  ∃e a' w',Q e a' w'/\ArrivesIn (Machine.fenced P F) P (lone (b.atR a (.code c:: .inLoop c::k)) cs w) b k cs e a' w'
def wpX (F:Fence) (n:Nat) (P:E') (c:Mn) (Q:Exit->Act->World->Prop) (a:Act) (w:World):Prop:=
 match c with
 | .loop b=>TD F n P b Q a w
 |c=>c.wpIn F n P Q a w
inductive ExR (g:Gh):Ex->Exit->Prop
 |normal:ExR g .normal .normal
 |exit (id:_):ExR g (.exit id) (.exit id)
 |ret:ExR g .ret .ret
 |z6 {v u:_} (h:VR g u v):ExR g (.z6 v) (.panic [{v:=u,recovered:=B}])
structure Ux (w w':World):Prop where
 os:w'.os=w.os
 tape:w'.tape=w.tape
 output:w'.output=w.output
 size:w.heap.size<=w'.heap.size
 heap:∀b,b<w.heap.size->w'.heap[b]? =w.heap[b]?
def ZL (P:E') (k:FuncId):Prop:=∃fn,P.funcs[k]? =V fn/\fn.body.isSome=M/\fn.name≠ "runtime.NumGoroutine"
structure Wr (w w':World) (b:Nat) (e:ll) (j6:jP):Prop where
 heap:w'.heap[b]? =V (.cells j6 e (0,0))
 size:w'.heap.size=w.heap.size
 Lv:∀k,k≠b->w'.heap[k]? =w.heap[k]?
 os:w'.os=w.os
 tape:w'.tape=w.tape
 output:w'.output=w.output
structure Nw (w w':World) (e:ll) (j6:jP):Prop where
 heap:w'.heap=w.heap.push (.cells j6 e (0,0))
 os:w'.os=w.os
 tape:w'.tape=w.tape
 output:w'.output=w.output
def atC (P:E') (k:FuncId) (sz:Nat):Prop:=
 ZL P k/\∀(m:Nat) (w:World) (b off n c i j:Nat) (cur:jP) (e:ll),w.heap[b]? =V (.cells cur e (0,0))->off+n*sz<=cur.size->(∀t,t<n*sz->∀v,cur[off+t]? =V v->v.oneCell'=M)->i<j->j<=n->n<=c->
  CallsIn aa6 m P k #[.slice (V ⟨b,off,G⟩) n c,.int .i64 i,.int .i64 j] w λr w'=>r= .returned (.slice (V ⟨b,off,G⟩) (n-(j-i)) c)/\∃j6,Wr w w' b e j6/\j6.size=cur.size/\
   (∀t,(t<off+i*sz\/off+n*sz<=t)->j6[t]? =cur[t]?)/\(∀t,t<n*sz-j*sz->j6[off+i*sz+t]? =cur[off+j*sz+t]?)/\∀t,t<j*sz-i*sz->∃v,j6[off+i*sz+(n*sz-j*sz)+t]? =V v/\v.oneCell'=M
def aHx (P:E') (k:FuncId) (e:ll) (sz:Nat):Prop:=
 ZL P k/\∀(m:Nat) (w:World) (b off n c i vb kE q vc:Nat) (cur Kw:jP) (ev:ll),w.heap[b]? =V (.cells cur e (0,0))->w.heap[vb]? =V (.cells Kw ev (0,0))->vb≠b->off+c*sz<=cur.size->kE+q*sz<=Kw.size->
  (∀t,t<n*sz->∀v,cur[off+t]? =V v->v.oneCell'=M)->(∀t,t<q*sz->∀v,Kw[kE+t]? =V v->v.oneCell'=M)->n<=c->n<=1000000->0<q->q<=1000000->i<=n->
  CallsIn aa6 m P k #[.slice (V ⟨b,off,G⟩) n c,.int .i64 i,.slice (V ⟨vb,kE,G⟩) q vc] w λr w'=>∃(b' o' c':Nat) (j6:jP),r= .returned (.slice (V ⟨b',o',G⟩) (n+q) c')/\n+q<=c'/\o'+c'*sz<=j6.size/\
   (∀t,t<(n+q)*sz->j6[o'+t]? =(CB ((cur.toList.drop off).take (n*sz)) (i*sz) ((Kw.toList.drop kE).take (q*sz)))[t]?)/\((b'=b/\o'=off/\Wr w w' b e j6)\/(b'=w.heap.size/\o'=0/\Nw w w' e j6))
def UC (P:E') (k:FuncId) (z:Bool):Prop:=
 ZL P k/\(∀(m:Nat) (w:World) (p:A Addr) (c:Nat),CallsIn aa6 m P k #[.slice p 0 c] w λr w'=>r= .returned (aS z (.tuple #[]) (.slice p 0 c))/\w'.heap=w.heap/\w'.os=w.os/\w'.tape=w.tape/\w'.output=w.output)/\
  ∀(m:Nat) (w:World) (b off c:Nat) (xs:List Int) (cur:jP) (e:ll),w.heap[b]? =V (.cells cur e (0,0))->0<xs.length->xs.length<=4294967295->xs.length<=c->(∀t x,xs[t]? =V x->cur[off+t]? =V (.int .i64 x))->
   CallsIn aa6 m P k #[.slice (V ⟨b,off,G⟩) xs.length c] w λr w'=>r= .returned (aS z (.tuple #[]) (.slice (V ⟨b,off,G⟩) (l8 xs).length c))/\∃w1 j6,Wr w w1 b e j6/\Ux w1 w'/\j6.size=cur.size/\
    (∀t,(t<off\/off+xs.length<=t)->j6[t]? =cur[t]?)/\∀t x,(Dc z xs)[t]? =V x->j6[off+t]? =V (.int .i64 x)
def KJ (E:Env) (k c:Nat):Prop:=(1048576<=c->UC E.P k (iX c 1048576))/\(c<1048576->∀ie,E.ty.get (c / 2)=V ie->(c % 2=0->atC E.P k ie.size)/\(c % 2≠0->aHx E.P k (c / 2) ie.size))
def LX {us:hJ} {x:Nat} (h:x∉us.map (·.1)) (F:Hf):hZ F us x=F x:=by rw[D4 us F F x,aC h]
def abF (us:hJ) (new:Nat):Nat->Bool:=λx=>U (x∈us.map (·.1)\/x=new)
def arM {op:Op} {T:Tf} {r:SV×hJ} (h:ux E op T f new=V r):∀c,op≠ .defer c:=by
 intro c e;subst e;cases h
end
section
variable {E:Env} {g:Gh} {f:Hf} {w:World}
variable {Q:Exit->Act->World->Prop}
def QJ {nt:Nat} {tm:Tf} {a:Act} {ops:eY} (jx:FR g nt tm a.tmps) (hw:kq ops.toList o tm=V M):ab8 o (yielded ops a.tmps)=M:=Ba jx hw
def aEy {ro:cB} {ops:eY} {m:Nat} {a:Act} (hi:ops[i]? =V o) (hw:ab8 o (yielded ops a.tmps)=M) (h:o.uponIn (wV ro) m E.P a K Q ((o.semAt (wV ro).round a.eval).run E.P w)):wpOpIn (wV ro) m E.P ops Q i K a w:=by
 unfold wpOpIn;rw[hi];simp only;rw[aF hw];exact ⟨Dm E.P w,h⟩
def Ms (x:Nat):∀(l:bP),JX x l=M↔x∈l
 | []=>by simp[JX]
 |y::l=>by
  unfold JX;rw[cI,beq_eq];by_cases h:x=y
  ·simp[h]
  ·simp only[h,aR,az,au,da,false_or];exact Ms x l
def TK {seen:bP} {sa:Array Nat} (hs:sa.toList=seen):∀{ms:List Z'} {es:iC},kK g ms es->kK g (ms.filter λe=> !sa.contains e.born) (qR seen es)
 |_,_,.nil=>.nil
 |_,_,.cons (m:=m) (x:=x) (ms:=ms) (xs:=xs) hd ht=>by
  have ih:=TK hs ht;have hc:sa.contains m.born=JX x.2.2 seen:=by
   rw[oa,Ms,Array.contains_iff_mem,<-Array.mem_toList_iff,hs,hd.2.2]
  unfold qR at ih ⊢;rw[je,je,hc];cases JX x.2.2 seen with
  |true=>exact ih
  |false=>exact .cons hd ih
def kK.aJa {es:iC} (h:kK g ms es):ms= []↔es= []:=by cases h<;>simp
def kK.mem {es:iC} (h:kK g ms es):∀m∈ms,∃x∈es,atB g m x:=by
 intro m hm;induction h with
 |nil=>simp at hm
 |cons hd ht ih=>
  rcases da.1 hm with rfl|hm
  ·exact ⟨_,by simp,hd⟩
  ·let ⟨x,hx,h⟩:=ih hm;exact ⟨x,dW _ hx,h⟩
def alJ {seen:bP} (hs:sa.toList=seen) {ms:Array Z'} {es:iC} (h:kK g ms.toList es):kK g (leftOf ms sa).toList (qR seen es):=by
 have:=TK hs h;unfold leftOf;rw[Array.toList_filter];exact this
def aqL {since last c:Nat} {seen:bP} {es:iC} (h:iterM since seen last c es=M):(∀e∈es,e.2.2<since)/\since<=last:=by
 unfold iterM at h;rw[bJ] at h;refine ⟨λe he=> ?_,(bN _ _).1 h.2⟩
 exact (bN _ _).1 (j1.1 h.1 e he)
def T7 {b:Nat}:∀{ms:List Z'} {es:iC},kK g ms es->∀{v:SV},Ga b es=V v->∃e,ms.find? (·.born==b)=V e/\VR g (.tuple #[e.key,e.val]) v
 |_,_,.nil,v,h=>by cases h
 |_,_,.cons (m:=m) (x:=x) (ms:=ms) (xs:=es) hd ht,v,h=>by
  unfold Ga at h;rw[cI] at h;split at h
  ·rename_i hb;have hb:=(beq_iff _ _).1 hb;cases h;refine ⟨m,by simp[hd.2.2,hb],.dq (.cons hd.1 (.cons hd.2.1 .nil))⟩
  ·rename_i hb;have hb:¬x.2.2=b:=λe=>hb ((beq_iff _ _).2 e)
   let ⟨e,h1,h2⟩:=T7 ht h;refine ⟨e,?_,h2⟩;rw[List.find?_cons];have:(m.born==b)=B:=by rw[hd.2.2];simpa using hb
   rw[this];exact h1
def TM:∀{l:bP} {b:Nat},Pj l=V b->l.getLast? =V b
 | [],b,h=>by cases h
 | [a],b,h=>by cases h;rfl
 |a::c::l,b,h=>by
  have:=TM (l:=c::l) h;rw[WI];exact this
end
section
variable {E:Env} {g:Gh} {f:Hf} {w:World}
end
section
section
variable {F:Fence} {n:Nat} {P:E'} {Q:Exit->Act->World->Prop} {a:Act} {w:World} {c:Mn}
def Cw (h:c.wpIn F n P (Exit.then (TD F n P c Q) Q) a w):TD F n P c Q a w:=by
 intro b k cs BU hb hr;let ⟨e,a₁,w₁,hq,xV⟩:=h b (.inLoop c::k) cs BU hb hr;cases e with
 |normal=>
  let ⟨e₂,a₂,w₂,aRx,aJs⟩:=hq b k cs BU hb hr;exact ⟨e₂,a₂,w₂,aRx,.of_steps (StepsIn.trans xV (.one (fenced_calm hb hr rfl) stepR_inLoop)) aJs⟩
 |exit id=>exact ⟨_,a₁,w₁,hq,.pass (x:=.inLoop c) rfl (λ_ _=>.inl (by simp)) xV⟩
 |goto l=>exact ⟨_,a₁,w₁,hq,.pass (x:=.inLoop c) rfl (λ_ _=>.inl (by simp)) xV⟩
 |ret=>exact ⟨_,a₁,w₁,hq,.pass (x:=.inLoop c) rfl (λ_ _=>.inl (by simp)) xV⟩
 |panic ch=>exact ⟨_,a₁,w₁,hq,.pass (x:=.inLoop c) rfl (λ_ _=>.inl (by simp)) xV⟩
 |outgrown=>exact ⟨_,a₁,w₁,hq,.pass (x:=.inLoop c) rfl (λ_ _=>.inl (by simp)) xV⟩
def W9 (h:TD F n P c Q a w):(Code.loop c).wpIn F n P Q a w:=λb k cs BU hb hr=>
 let ⟨e,a',w',hq,xV⟩:=h b k cs BU hb hr
 ⟨e,a',w',hq,.of_steps (.one (fenced_calm hb hr rfl) stepR_loop) xV⟩
def sW (h:wpX F n P c Q a w):c.wpIn F n P Q a w:=by
 cases c<;>first|exact h|exact W9 h
end
variable {E:Env} {g:Gh} {f:Hf} {w:World}
def okL {a b:Mn} (h:codeOk (.seq a b)=M):codeOk a=M:=by
 have h:(codeOk a&&codeOk b)=M:=h;rw[bJ] at h;exact h.1
def okR {a b:Mn} (h:codeOk (.seq a b)=M):codeOk b=M:=by
 have h:(codeOk a&&codeOk b)=M:=h;rw[bJ] at h;exact h.2
def TL (id i:Nat):leave id (.exit i)=if i=id then .normal else .exit i:=by
 show aS (iX i id) Ex.normal (.exit i)=_;rw[cI,beq_eq];by_cases h:i=id<;>simp[h]
end
section
variable {E:Env} {g:Gh} {f:Hf} {w:World}
def ayD {x:SV} (h:aro E x=M):∃k fi ca fn,x= .fn (.func k) fi ca/\E.fn.get k=V fn/\fn.body.isSome=M:=by
 cases x with
 |fn f fi ca=>
  cases f with
  |func k=>
   have h: @Option.rec Func (λ_=>Bool) B (λfn=>fn.body.isSome) (E.fn.get k)=M:=h
   cases hf:E.fn.get k with
   |none=>rw[hf] at h;cases h
   |some fn=>rw[hf] at h;exact ⟨k,fi,ca,fn,rfl,hf,h⟩
  |_=>cases h
 |_=>cases h
def y7 {P:E'} (hf:P.funcs[k]? =V fn) (hb:fn.body.isSome=M) (args:jP) (w:World):
  ((callFunc k args).run P w= .ok .numGoroutine w/\fn.name= "runtime.NumGoroutine")\/(callFunc k args).run P w= .ok (.enter k args) w:=by
 have h2:fn.body≠G:=by cases hfb:fn.body<;>simp_all
 by_cases h:fn.name= "runtime.NumGoroutine"
 ·left;exact ⟨by simp[callFunc,hf,h,Sem.run],h⟩
 ·right;simp[callFunc,hf,h,h2,Sem.run]
def agw {P:E'} (k:FuncId) (fi ca us:jP) (w:World):(Deferred.ofValue (.func (.func k) fi ca) us).run P w= .ok {target:=.fn (.func k) ca,args:=fi++us} w:=rfl
end
section
variable {E:Env} {g:Gh} {f:Hf} {w:World}
def HR.grow (h:HR g f w) (oQ:w.heap.size<=w'.heap.size) (hs:∀b,b<w.heap.size->w'.heap[b]? =w.heap[b]?):HR g f w':=
 ⟨λid o ho=>let ⟨b,c,q1,q2,q3⟩:=h.ob id o ho;⟨b,c,q1,Bv q2 oQ,q3.mono (.refl _) q1 (hs b q2)⟩,h.inj⟩
def afW (a:Act):ab0->Go.Sem BL
 | .tmp t=>pure (a.tmps.getD t undef)
 | .cell k t=>do loadVar t (<-asAddr (a.tmps.getD k undef))
def alB (hE:fR E g) (h:HR g f w) {nt:Nat} {T:Tf} {a:Act} (jx:FR g nt T a.tmps) {x:SV} (hx:Tb E T f rv=V x):∃v,(afW a rv).run E.P w= .ok v w/\VR g v x:=by
 cases rv with
 |tmp t=>exact ⟨_,rfl,jx.tm t x hx⟩
 |cell k t=>
  let ⟨y,hy,hl⟩:=aq (show ay (T k) (rR E f t)=V x from hx);have hu:=jx.tm k y hy;let ⟨v,hv,hvr⟩:=TE hE h hu hl;let ⟨q,h1,_⟩:=aq hl;obtain rfl:=rN h1;refine ⟨v,?_,hvr⟩;generalize hz:a.tmps.getD k undef=z at hu hv;cases hu with
  |ptr hρ=>
   simp only[Instr.loadAt,ab7,B',E2,D'] at hv;simp only[afW,hz,asAddr,B',E2,D'];exact hv
def Mi (hE:fR E g) (h:HR g f w) {nt:Nat} {T:Tf} {a:Act} (jx:FR g nt T a.tmps):∀{rvs:List ab0} {xs:bf},AA E T f rvs=V xs->∃vs,(rvs.mapM (afW a)).run E.P w= .ok vs w/\nD g vs xs
 | [],xs,hx=>by cases hx;exact ⟨[],by simp,.nil⟩
 |rv::rvs,xs,hx=>by
  let ⟨x,l,h1,h2,hx⟩:=bT (show cj (Tb E T f rv) (AA E T f rvs) (λv l=>V (v::l))=V xs from hx)
  cases hx;let ⟨v,ED,Ie⟩:=alB hE h jx h1;let ⟨vs,hs1,hs2⟩:=Mi hE h jx h2;refine ⟨v::vs,?_,.cons Ie hs2⟩;rw[WW];simp only[B'];rw[ED];simp only[D'];rw[hs1];simp
def afV (hE:fR E g) (h:HR g f w) {nt:Nat} {T:Tf} {a:Act} (jx:FR g nt T a.tmps) {xs:bf} (hx:AA E T f fn.results.toList=V xs):∃v,(results fn a.tmps).run E.P w= .ok v w/\VR g v (oneOf xs):=by
 let ⟨vs,h1,h2⟩:=Mi hE h jx hx;refine ⟨if h:vs.toArray.size=1 then vs.toArray[0] else .tuple vs.toArray,?_,?_⟩
 ·have e:∀f:ab0->Go.Sem BL,(∀x,f x=afW a x)->fn.results.mapM f=fn.results.mapM (afW a):=λf hf=>by rw[funext hf]
  unfold results;rw[e _ (λx=>by cases x<;>rfl)]
  rw[<-Array.toArray_toList (xs:=fn.results),List.mapM_toArray];simp only[B',Sem.run_map];rw[h1];simp
 ·cases h2 with
  |nil=>exact .dq (by simpa using .nil)
  | @cons v x vs' xs' hv ht=>
   cases ht with
   |nil=>simpa[oneOf] using hv
   | @cons v2 x2 vs2 xs2 Ie ht2=>
    have:¬(v::v2::vs2).toArray.size=1:=by simp
    rw[dif_neg this];exact .dq (by simpa using .cons hv (.cons Ie ht2))
def GR:∀(vs:bf) (i:Nat) (t:LJ) (j:Nat),(setArgs vs i t).get j=if i<=j/\j<i+vs.length then vs[j-i]? else t.get j
 | [],i,t,j=>by
  have:¬(i<=j/\j<i+([]:bf).length):=by simp
  rw[aC this];rfl
 |v::vs,i,t,j=>by
  have e:setArgs (v::vs) i t=setArgs vs (i+1) (t.set i (V v)):=rfl;rw[e,GR vs (i+1) _ j,Tr.anS];by_cases h1:j=i
  ·subst h1;rw[aC (by omega),aF rfl,aF (by simp)]
   simp
  ·by_cases h2:i+1<=j/\j<i+1+vs.length
   ·rw[aF h2,aF (by simp;omega)]
    have:j-i=(j-(i+1))+1:=by omega
    rw[this,uo]
   ·rw[aC h2,aC h1,aC (by simp;omega)]
def FR.args {us:fM} {aa:bf} (h:nD g us aa) {nt:Nat} (hn:aa.length<=nt):FR g nt (setArgs aa 0 .nil).get (us.toArray++Array.replicate (nt-us.toArray.size) undef):=by
 have hl:=h.length;refine ⟨by simp;omega,λt x hx=> ?_⟩
 rw[GR] at hx;split at hx
 ·rename_i hc;let ⟨v,h1,h2⟩:=h.get hx;have dz:t<us.length:=by omega
  have e:(us.toArray++Array.replicate (nt-us.toArray.size) undef).getD t undef=v:=by
   rw[uO,LN (by simpa using dz)]
   simp only[Nat.sub_zero] at h1;simp[h1]
  rw[e];exact h2
 ·cases hx
end
section
variable {E:Env} {g:Gh} {f:Hf} {w:World}
end
end Go.bL
end
