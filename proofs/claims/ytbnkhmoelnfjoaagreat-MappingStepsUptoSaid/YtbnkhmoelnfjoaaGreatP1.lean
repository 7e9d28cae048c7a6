/- Part. -/
import Derived.WalkKit
import Derived.RangeFuncLeaves
import Derived.OrdersIn
import Derived.WalkLawsBesides
import Derived.Great.BuildSlice
import Derived.Deep.AppendSrc
import Derived.Laws.CopyRow
import Derived.Laws.AppendOwn
import Derived.Great.FillDense
import Derived.Laws.MakeOwn
import Derived.MapKept
import Derived.RangeFuncCalls
import Derived.Lib.Bytealg
import Derived.Laws.Externs
import Derived.Maps.RangeRun
import Derived.RangeFuncRecord
import Derived.RecoverIn
set_option linter.all false
abbrev Go.Z:=@Option
abbrev Go.U:=ByteArray
open Option renaming some->V,none->G
open Bool renaming true->M,false->I
open Go renaming TypeId->pJ,Value->C',Operand->Ew,Program->J5,IntKind->O',BinOp->X',MapEntry->aa0,Oper->S',Code->P',ResultVar->ab2
open Nat renaming ble->kQ,beq->ku,add->wW,mul->B',sub->aau,succ->LJ,div->U',mod->aa3
open Go.Sem renaming run_bind->D',run_pure->I',run_ite->ab6
open Go.Result renaming andThen_ok->E'
open Go.Op renaming operands->J',equalIn->ab5
open Decidable renaming decide->iL
open Int renaming ofNat->ab3
open Go.Builtin renaming len_->ab4,append_->aa8,firstCells->ab7,copy_->aa5
open Go.Utf8 renaming decode->Z'
open Go.Instr renaming sureAddr->ab9,sliceAt->ac2
open Go.Fence renaming wide->aa7
open Go.MapKept renaming run_getObj_map->ac5
open List renaming replicate->V'
open Go.ByteArray renaming toList_eq->ac4
open Go.Region renaming wanted->ac0
noncomputable section
namespace Go.bM
def kR:=@Option.some.inj
def tq:=@of_decide_eq_true
def r4:=@List.append_nil
def aar:=@List.cons.inj
def aG:=@if_pos
def aC:=@if_neg
def bF:=@congrArg
def tp:=@Nat.le_of_eq
def kY:=@Nat.le_trans
def NK:=@of_decide_eq_false
def G7:=@Bool.false_ne_true
def vm:=@List.map_take
def A9:=@List.map_drop
def nK:=@List.pairwise_cons
def da:=@List.mem_cons
def iu:=@List.length_cons
def atN:=@List.range_succ_eq_map
def jc:=@List.filter_cons
def tT:=@decide_eq_true
def tS:=@List.map_map
def Dt:=@decide_eq_false
def jX:=@List.map_cons
def oj:=@Array.getElem?_eq_some_iff
def Li:=@Array.getElem?_modify
def wO:=@Ne.symm
def bO:=@List.getElem?_eq_some_iff
def A8:=@Array.getElem?_eq_getElem
def Lh:=@Option.map_some
def cZ:=@List.getElem?_eq_getElem
def de:=@Nat.le_refl
def pj:=@List.nodup_cons
def GX:=@List.mem_map_of_mem
def yy:=@List.filter_eq_self
def jA:=@decide_eq_true_eq
def RT:=@List.filter_congr
def nJ:=@Bool.eq_iff_iff
def acM:=@Bool.not_eq_true'
def bG:=@Bool.and_eq_true
def acL:=@Bool.not_eq_true
def eV:=@List.mem_append
def gL:=@List.mem_singleton
def vk:=@List.length_eq_zero_iff
def ph:=@List.drop_zero
def jz:=@List.take_of_length_le
def jJ:=@List.all_eq_true
def nI:=@List.mem_filter
def sm:=@Nat.le_succ
def Lg:=@Nat.lt_succ_self
def gy:=@List.length_append
def ka:=@List.map_append
def j8:=@List.append_assoc
def acK:=@Bool.eq_false_iff
def yx:=@List.take_zero
def jy:=@List.nil_append
def p7:=@List.drop_of_length_le
def yw:=@Nat.lt_of_not_le
def wN:=@Nat.le_of_ble_eq_true
def dM:=@List.mem_map
def vj:=@List.map_congr_left
def RS:=@Nat.eq_zero_or_pos
def nH:=@Nat.add_zero
def acJ:=@Array.getElem?_setIfInBounds
def qX:=@Nat.sub_self
def tR:=@List.getElem?_cons_succ
def jx:=@List.length_drop
def A7:=@Nat.sub_mul
def fp:=@List.getElem?_drop
def nG:=@List.mem_of_mem_drop
def gD:=@Nat.add_assoc
def eZ:=@List.getElem?_take
def l5:=@Array.getElem?_toList
def GW:=@List.getElem_of_mem
def p6:=@List.getElem_mem
def wM:=@List.map_nil
def Lf:=@Array.getElem?_append_left
def Ld:=@List.getElem?_toArray
def RR:=@Nat.min_def
def dz:=@List.length_take
def sj:=@List.getElem?_append
def fo:=@Nat.min_eq_left
def cg:=@Nat.zero_add
def GV:=@Array.getElem?_eq_none
def acI:=@Bool.or_eq_false_iff
def mL:=@List.length_map
def GU:=@Nat.mul_one
def A6:=@Nat.lt_of_lt_of_le
def A5:=@List.range'_succ
def Lc:=@List.range_eq_range'
def A4:=@Array.ext'
def iT:=@Bool.true_and
def Ds:=@List.nodup_append
def Dr:=@List.map_set
def Lb:=@List.set_getElem_self
def gX:=@List.mem_append_left
def jb:=@List.mem_append_right
def mK:=@Nat.zero_mul
def dQ:=@List.mem_cons_of_mem
def pd:=@List.getElem?_append_left
def j7:=@List.mem_cons_self
def nF:=@List.getElem?_append_right
def fW:=@Nat.add_mul
def jK:=@Bool.and_eq_true_iff
def sx:=@Bool.or_eq_true
def wc:=@Option.map_eq_some_iff
def Wg:=@List.mem_or_eq_of_mem_set
def ld:=@List.length_set
def wa:=@List.cons_append
def Wf:=@List.Sublist.append_left
def NW:=@List.sublist_append_right
def bQ:=@List.mem_of_getElem?
def js:=@Nat.mul_le_mul_right
def We:=@Nat.min_eq_right
def l6:=@List.take_take
def oG:=@List.mem_of_mem_take
def pX:=@List.flatten_cons
def Wd:=@List.take_left
def Wc:=@List.drop_left
def C4:=@List.take_append_drop
def NV:=@List.nil_sublist
def NU:=@Option.isSome_iff_exists
def pW:=@Classical.byContradiction
def uw:=@Option.ne_none_iff_exists'
def qQ:=@List.all_cons
def C3:=@List.length_nil
def NT:=@Array.length_toList
def sw:=@List.drop_drop
def C2:=@List.filter_append
def su:=@List.filter_eq_nil_iff
def v8:=@List.eq_nil_of_length_eq_zero
def akY:=@List.eq_nil_iff_forall_not_mem
def uv:=@Array.getD_eq_getD_getElem?
def v7:=@List.append_of_mem
def Wb:=@List.nodup_range
def Wa:=@List.mem_range
def V9:=@Array.getElem?_replicate
def aw:=@if_true
def uu:=@List.foldl_cons
def ur:=@List.mem_flatMap
def NS:=@Nat.le_add_right
def uq:=@Nat.zero_le
def V8:=@Option.some.injEq
def nQ:=@List.getElem?_map
def uo:=@List.take_length
def vZ:=@List.drop_take
def vY:=@List.length_replicate
def nf:=@List.getElem?_set_self
def vX:=@List.set_set
def G6:=@List.length_pos_iff
def vW:=@List.set_append_right
def sr:=@List.drop_eq_getElem_cons
def pU:=@List.take_add_one
def G5:=@List.take_left'
def V7:=@List.mapM_cons
def sq:=@beq_iff_eq
def so:=@Nat.one_mul
def ak:=@Option.bind_some
def vV:=@List.ext_getElem?
def qP:=@List.getElem?_eq_none
def ia:=@bne_self_eq_false
def ax:=@Bool.false_eq_true
def au:=@if_false
def C1:=@Nat.add_comm
def V6:=@List.take_succ_cons
def G4:=@List.take_length_add_append
def V5:=@List.Sublist.refl
def akX:=@List.drop_length_add_append
def akW:=@List.take_append_of_le_length
def V4:=@List.drop_append_of_le_length
def G3:=@Nat.le_zero
def V3:=@Int.ofNat.inj
def V2:=@List.replicate_succ
def zw:=@UInt8.lt_irrefl
def NR:=@UInt8.not_lt
def aR:=@decide_false
def aO:=@decide_true
def gq:=@Bool.not_false
def dd:=@Bool.not_true
def gJ:=@Bool.false_and
def kZ:=@Bool.eq_false_or_eq_true
def pT:=@Bool.and_self
def C0:=@Bool.and_false
def G2:=@List.take_succ
def G1:=@Option.toList_some
def V1:=@ByteArray.size_append
def iz:=@beq_self_eq_true
def G0:=@Eq.trans
def NQ:=@decide_eq_decide
def NP:=@beq_false_of_ne
def um:=@List.getElem?_set_ne
def V0:=@List.getElem?_of_mem
def VZ:=@Int.toNat_of_nonneg
def NO:=@List.pairwise_append
def NN:=@Int.toNat_natCast
def vU:=@List.getElem?_cons_zero
def akV:=@List.getLast?_eq_getElem?
def NM:=@List.getLast_mem
def VY:=@List.singleton_append
def VX:=@List.filterMap_cons
def sn:=@List.flatMap_cons
def GZ:=@List.mem_filterMap
def xO:=@List.length_reverse
def VW:=@List.mem_reverse
def VV:=@List.pairwise_iff_getElem
def akU:=@List.pairwise_lt_range
def akT:=@List.getLast?_cons_cons
def NL:=@Option.getD_none
def CZ:=@Option.getD_some
def GY:=@Int.ofNat_eq_natCast
def VU:=@Option.map_none
inductive SI where
 |lit (n:Int)
 deriving Inhabited
def SI.ev (η:Nat->Int):SI->Int
 | .lit n=>n
def ij:O'->O'->Bool
 | .i8,.i8| .i16,.i16| .i32,.i32| .i64,.i64| .u8,.u8| .u16,.u16| .u32,.u32| .u64,.u64=>M
 |_,_=>I
def JD:Int->Int->Bool
 | .ofNat a,.ofNat b=>ku a b
 | .negSucc a,.negSucc b=>ku a b
 |_,_=>I
def CH:Int->Int->Bool
 | .ofNat a,.ofNat b=>kQ (a+1) b
 | .negSucc _,.ofNat _=>M
 | .ofNat _,.negSucc _=>I
 | .negSucc a,.negSucc b=>kQ (b+1) a
def SI.eqb:SI->SI->Bool
 | .lit a,.lit b=>JD a b
inductive Cp where
 |k (n:Nat)
 |u (e:pJ)
 deriving Inhabited
inductive SV where
 |bool (b:Bool)
 |int (k:O') (e:SI)
 |str (s:ByteArray)
 |ptr (id off:Nat)
 |vy
 |sl (id off n:Nat) (cap:Cp)
 |sle
 |cq
 |mp (id:Nat)
 |pC
 |fn (f:Fn) (first j5:List SV)
 |uJ
 |agg (cs:List SV)
 |dr (vs:List SV)
 |undef
 deriving Inhabited
inductive Tr (J:Type) where
 |nil
 |node (l:Tr J) (v:Option J) (r:Tr J)
 deriving Inhabited
@[reducible] def aT {J:Type} (b:Bool) (x y:J):J:= @Bool.rec (λ_=>J) y x b
def Tr.get {J:Type} (t:Tr J):Nat->Z J:=
 @Tr.rec J (λ_=>Nat->Z J) (λ_=>G) (λ_ v _ gl gr i=> @Bool.rec (λ_=>Z J) (@Bool.rec (λ_=>Z J) (gr (aau (U' i 2) 1)) (gl (U' i 2)) (ku (aa3 i 2) 1)) v (ku i 0)) t
def Tr.LC {J:Type} (n:Nat):Tr J->Nat->Z J->Tr J:=
 @Nat.rec (λ_=>Tr J->Nat->Z J->Tr J) (λt _ _=>t) (λ_ ih t i x=>
  @Tr.rec J (λ_=>Tr J)
   (@Bool.rec (λ_=>Tr J) (@Bool.rec (λ_=>Tr J) (.node .nil G (ih .nil (aau (U' i 2) 1) x)) (.node (ih .nil (U' i 2) x) G .nil) (ku (aa3 i 2) 1)) (.node .nil x .nil) (ku i 0))
   (λl v r _ _=> @Bool.rec (λ_=>Tr J) (@Bool.rec (λ_=>Tr J) (.node l v (ih r (aau (U' i 2) 1) x)) (.node (ih l (U' i 2) x) v r) (ku (aa3 i 2) 1)) (.node l x r) (ku i 0)) t) n
def Tr.set {J:Type} (t:Tr J) (i:Nat) (x:Z J):Tr J:=Tr.LC (LJ i) t i x
inductive SO where
 |cells (e:pJ) (cs:List SV)
 |map (es:List (SV×SV×Nat)) (clock:Nat)
 |pY (s:ByteArray) (pos:Nat)
 |mapIter (map:Option Nat) (since:Nat) (seen:List Nat) (aUv:Nat)
 |dfr
 |ro (cs:List SV)
 deriving Inhabited
structure FL where
 type:pJ
 off:Nat
 named:Bool
inductive UD where
 |bool|int (k:O')|string|pointer|slice (e:pJ)|array (n:Nat) (e:pJ)|map (k e:pJ)|struct (fs:List FL)|func|interface|other
 deriving Inhabited
structure TI where
 desc:UD
 size:Nat
 bytes:Nat
 zero:List SV
 comparable:Bool
 deriving Inhabited
structure Env where
 P:J5
 ty:Tr TI
 fn:Tr Func
 lt:List (SI×SI×Bool)
 eq:List (SI×SI×Bool)
 done:List (Nat×SV):= []
 join:List Nat:= []
 aoG:List (Nat×Nat):= []
 memo:List Nat:= []
 stop:List Nat:= []
def Fj (E:Env):SI->SI->Z Bool
 | .lit a,.lit b=>V (CH a b)
def eqI (E:Env):SI->SI->Z Bool
 | .lit x,.lit y=>V (JD x y)
def oO {J:Type} (P:J5):Sem J->Z J
 | .pure a=>V a
 | .program k=>oO P (k P)
 |_=>G
mutual
def wy:C'->SV
 | .bool b=>.bool b
 | .int k n=>.int k (.lit n)
 | .string s=>.str s
 | .pointer G=>.vy
 | .slice G 0 0=>.cq
 | .map G=>.pC
 | .nilFunc=>.uJ
 | .agg ⟨cs⟩=>aT (cs.all Value.oneCell') (.agg (tL cs)) .undef
 | .tuple ⟨cs⟩=>.dr (tL cs)
 |_=>.undef
def tL:List C'->List SV
 | []=> []
 |v::vs=>wy v::tL vs
end
abbrev Hp:=Tr SO
abbrev Hf:=Nat->Z SO
abbrev Up:=Nat×Z SO
abbrev Tf:=Nat->Z SV
abbrev ig:=List (SV×SV×Nat)
abbrev gG:=Z (SV×List Up)
abbrev bc:=List SV
abbrev bJ:=List Nat
abbrev gO:=List Up
abbrev nu:=List S'
abbrev eP:=Array S'
abbrev fV:=Z SV
abbrev cD:=Z Nat
abbrev fG:=List C'
abbrev jw:=Array C'
abbrev La:=Tr SV
def dB (tm:Tf):Ew->fV
 | .tmp t=>tm t
 | .const v=>V (wy v)
 | .global _=>G
 | .func f=>V (.fn (.func f) [] [])
def SV.cells (x:SV):Z bc:=match x with
 | .bool b=>V [.bool b]
 | .int k e=>V [.int k e]
 | .str s=>V [.str s]
 | .ptr i o=>V [.ptr i o]
 | .vy=>V [.vy]
 | .sl a b c d=>V [.sl a b c d]
 | .sle=>V [.sle]
 | .cq=>V [.cq]
 | .mp i=>V [.mp i]
 | .pC=>V [.pC]
 | .fn f a c=>V [.fn f a c]
 | .uJ=>V [.uJ]
 | .agg cs=>V cs
 |_=>G
def mT (d:UD):Bool:=match d with
 | .array _ _=>M
 | .struct _=>M
 |_=>I
def Yi:SI->cD
 | .lit (.ofNat n)=>V n
 |_=>G
def azN (x:SV):Z (Nat×Nat×Nat×Cp):=match x with
 | .sl i o n c=>V (i,o,n,c)
 |_=>G
def oP (x:SV):cD:=match x with
 | .int _ e=>Yi e
 |_=>G
def ug (x:SV):Z Bool:=match x with
 | .bool b=>V b
 |_=>G
def intOf (x:SV):Z (O'×SI):=match x with
 | .int k e=>V (k,e)
 |_=>G
def strOf (x:SV):Z U:=match x with
 | .str s=>V s
 |_=>G
def xj (x:SV):Z (Nat×Nat):=match x with
 | .ptr i o=>V (i,o)
 |_=>G
def OZ (x:SV):Z bc:=match x with
 | .agg cs=>V cs
 |_=>G
def RW (x:SV):Z bc:=match x with
 | .dr cs=>V cs
 |_=>G
def aAg (x:SV):cD:=match x with
 | .mp i=>V i
 |_=>G
def QN (x:SV):cD:=match x with
 | .sl _ _ n _=>V n
 | .sle=>V 0
 | .cq=>V 0
 |_=>G
def L6 (x:SV):Bool:=match x with
 | .sl _ _ _ _=>M
 | .sle=>M
 | .cq=>M
 |_=>I
def aaC (x:SV):fV:=match x with
 | .ptr i o=>V (.ptr i o)
 | .fn f a c=>V (.fn f a c)
 |_=>G
def je (i:TI) (cs:bc) (off:Nat):fV:=
 aT (mT i.desc) (aT (kQ (wW off i.size) cs.length) (V (.agg ((cs.drop off).take i.size))) G) (cs[off]?)
def eB (cs:bc) (off:Nat) (xs:bc):bc:=cs.take off++xs++cs.drop (wW off xs.length)
def az {J γ:Type} (x:Z J) (f:J->Z γ):Z γ:= @Option.rec J (λ_=>Z γ) G f x
def cC {J f8 γ:Type} (x:Z J) (y:Z f8) (f:J->f8->Z γ):Z γ:= @Option.rec J (λ_=>Z γ) G (λa=> @Option.rec f8 (λ_=>Z γ) G (f a) y) x
def vd {J f8 δ γ:Type} (x:Z J) (y:Z f8) (z:Z δ) (f:J->f8->δ->Z γ):Z γ:=az x λa=>cC y z λb c=>f a b c
def andThen (r:Z Bool) (k:Z Bool):Z Bool:=
 match r with
 |some M=>k
 |r=>r
def JZ (E:Env) (eq:pJ->SV->SV->Z Bool) (xs ys:bc):List FL->Z Bool
 | []=>V M
 |f::fs=>aT f.named (az (E.ty.get f.type) λi=>cC (je i xs f.off) (je i ys f.off) λx y=>andThen (eq f.type x y) (JZ E eq xs ys fs)) G
def axI (x y:SV):Z Bool:=cC (ug x) (ug y) λa b=>V (a==b)
def aQH (E:Env) (x y:SV):Z Bool:=cC (intOf x) (intOf y) λa b=>aT (ij a.1 b.1) (eqI E a.2 b.2) G
def uf:List UInt8->List UInt8->Bool
 | [],[]=>M
 |a::l,b::m=>ku a.toNat b.toNat&&uf l m
 |_,_=>I
def Gj (a b:U):Bool:=uf a.data.toList b.data.toList
def eqStr (x y:SV):Z Bool:=cC (strOf x) (strOf y) λa b=>V (Gj a b)
def aqD:SV->SV->Z Bool
 | .vy,.vy=>V M
 | .vy,.ptr _ _=>V I
 | .ptr _ _,.vy=>V I
 |_,_=>G
def aBv:SV->SV->Z Bool
 | .cq,.cq=>V M
 | .cq,.sl _ _ _ _=>V I
 | .sl _ _ _ _,.cq=>V I
 |_,_=>G
def aqE:SV->SV->Z Bool
 | .pC,.pC=>V M
 | .pC,.mp _=>V I
 | .mp _,.pC=>V I
 |_,_=>G
def aBy:SV->SV->Z Bool
 | .uJ,.uJ=>V M
 | .uJ,.fn _ _ _=>V I
 | .fn _ _ _,.uJ=>V I
 |_,_=>G
def ays (x y:SV):Z (bc×bc):=cC (OZ x) (OZ y) λxs ys=>V (xs,ys)
def aBu (E:Env) (eq:pJ->SV->SV->Z Bool) (t:pJ) (fs:List FL) (x y:SV):Z Bool:=az (ays x y) λp=>aT (E.P.stoodInHeld t) G (JZ E eq p.1 p.2 fs)
def eqD (d:UD):Env->(pJ->SV->SV->Z Bool)->pJ->SV->SV->Z Bool:=match d with
 | .bool=>λ_ _ _ x y=>axI x y
 | .int _=>λE _ _ x y=>aQH E x y
 | .string=>λ_ _ _ x y=>eqStr x y
 | .pointer=>λ_ _ _ x y=>aqD x y
 | .slice _=>λ_ _ _ x y=>aBv x y
 | .map _ _=>λ_ _ _ x y=>aqE x y
 | .struct fs=>λE eq t x y=>aBu E eq t fs x y
 | .func=>λ_ _ _ x y=>aBy x y
 |_=>λ_ _ _ _ _=>G
def eqT (E:Env) (n:Nat):pJ->SV->SV->Z Bool:=
 @Nat.rec (λ_=>pJ->SV->SV->Z Bool) (λ_ _ _=>G) (λ_ eq t x y=>az (E.ty.get t) λi=>eqD i.desc E eq t x y) n
def isConst:Ew->Bool
 | .const _=>M
 |_=>I
def aBx (E:Env) (t:pJ) (ox oy:Ew) (x:SV):Bool:=
 match x with
 | .agg _=> !E.P.eqGuardType E.P.depth t
 |_=>M
def JY (E:Env) (t:pJ) (ox oy:Ew) (x y:SV):Z Bool:=aT (aBx E t ox oy x) (eqT E 20 t x y) G
def lW (neg:Bool) (r:Z Bool):fV:=az r λb=>V (.bool (aT neg (!b) b))
def Jr (r:Z C'):fV:=az r λv=>V (wy v)
def aaF (E:Env) (op:X') (t:pJ) (k k':O'):SI->SI->fV
 | .lit m,.lit n=>Jr (oO E.P (binOp op t (.int k m) (.int k' n)))
def ahm (k:O'):SI->SI->SI
 | .lit m,.lit n=>.lit (k.wrap (m+n))
def Qq (k:O'):SI->SI->SI
 | .lit m,.lit n=>.lit (k.wrap (m-n))
def apN (o:X'):Env->X'->pJ->O'->O'->SI->SI->fV:=match o with
 | .add=>λ_ _ _ k k2 a b=>aT (ij k k2) (V (.int k (ahm k a b))) G
 | .sub=>λ_ _ _ k k2 a b=>aT (ij k k2) (V (.int k (Qq k a b))) G
 | .eql=>λE _ _ k k2 a b=>aT (ij k k2) (lW I (eqI E a b)) G
 | .neq=>λE _ _ k k2 a b=>aT (ij k k2) (lW M (eqI E a b)) G
 | .lss=>λE _ _ k k2 a b=>aT (ij k k2) (lW I (Fj E a b)) G
 | .leq=>λE _ _ k k2 a b=>aT (ij k k2) (lW M (Fj E b a)) G
 | .gtr=>λE _ _ k k2 a b=>aT (ij k k2) (lW I (Fj E b a)) G
 | .geq=>λE _ _ k k2 a b=>aT (ij k k2) (lW M (Fj E a b)) G
 |_=>λE op t k k2 a b=>aaF E op t k k2 a b
def aoL (o:X'):Env->X'->pJ->U->U->fV:=match o with
 | .eql=>λ_ _ _ a b=>V (.bool (Gj a b))
 | .neq=>λ_ _ _ a b=>V (.bool (!Gj a b))
 |_=>λE op t a b=>Jr (oO E.P (binOp op t (.string a) (.string b)))
def Yd (o:X'):Env->pJ->Ew->Ew->SV->SV->fV:=match o with
 | .eql=>λE t ox oy x y=>lW I (JY E t ox oy x y)
 | .neq=>λE t ox oy x y=>lW M (JY E t ox oy x y)
 |_=>λ_ _ _ _ _ _=>G
def aya (E:Env) (op:X') (t:pJ) (k:O') (a:SI) (y:SV):fV:=az (intOf y) λp=>apN op E op t k p.1 a p.2
def axZ (E:Env) (op:X') (t:pJ) (a:U) (y:SV):fV:=az (strOf y) λb=>aoL op E op t a b
def aBU (x:SV):Env->X'->pJ->Ew->Ew->SV->SV->fV:=match x with
 | .int k a=>λE op t _ _ _ y=>aya E op t k a y
 | .str a=>λE op t _ _ _ y=>axZ E op t a y
 |_=>λE op t ox oy x y=>Yd op E t ox oy x y
def Ri (E:Env) (op:X') (t:pJ) (ox oy:Ew) (x y:SV):fV:=aBU x E op t ox oy x y
def aaW (k:O'):SI->SI
 | .lit n=>.lit (k.wrap n)
def aCL:SI->fV
 | .lit n=>V (.str (Utf8.encode n))
def aoM:SV->fV
 | .str s=>V (.str s)
 | .int _ e=>aCL e
 |_=>G
def aaX (d:UD):SV->fV:=match d with
 | .int k=>λx=>az (intOf x) λp=>V (.int k (aaW k p.2))
 | .string=>λx=>aoM x
 |_=>λ_=>G
def To (E:Env) (src dst:pJ) (x:SV):fV:=cC (E.ty.get src) (E.ty.get dst) λ_ i=>aaX i.desc x
def S2:UnOp->Bool
 | .not=>M
 |_=>I
def isNeg:UnOp->Bool
 | .neg=>M
 |_=>I
def unV (x:SV):UnOp->fV:=match x with
 | .bool b=>λop=>aT (S2 op) (V (.bool (!b))) G
 | .int k e=>λop=>aT (isNeg op) (V (.int k (Qq k (.lit 0) e))) G
 |_=>λ_=>G
def unA (op:UnOp) (x:SV):fV:=unV x op
def oe (place:Nat->Z (Nat×Nat)) (cs:bc):List (Nat×bc)->Z bc
 | []=>V cs
 |p::rest=>az (place p.1) λq=>aT (ku p.2.length q.2&&kQ (wW q.1 q.2) cs.length) (oe place (eB cs q.1 p.2) rest) G
def ma (tm:Tf):List (Nat×Ew)->Z (List (Nat×bc))
 | []=>V []
 |p::rest=>az (dB tm p.2) λv=>cC v.cells (ma tm rest) λcs l=>V ((p.1,cs)::l)
def rep (z:bc):Nat->bc
 |0=> []
 |n+1=>z++rep z n
def Sx (E:Env) (fs:List FL) (j:Nat):Z (Nat×Nat):=az (fs[j]?) λf=>az (E.ty.get f.type) λfi=>V (f.off,fi.size)
def tX (size:Nat) (j:Nat):Z (Nat×Nat):=V (B' j size,size)
def MT (r:Z bc):fV:=az r λcs=>V (.agg cs)
def Tv (d:UD):Env->bc->List (Nat×bc)->fV:=match d with
 | .array _ e=>λE z jo=>az (E.ty.get e) λie=>MT (oe (tX ie.size) z jo)
 | .struct fs=>λE z jo=>MT (oe (Sx E fs) z jo)
 |_=>λ_ _ _=>G
def MP (E:Env) (t:pJ) (jo:List (Nat×bc)):fV:=az (E.ty.get t) λi=>Tv i.desc E i.zero jo
def mh:Z SO->Z (pJ×bc)
 |some (.cells e cs)=>V (e,cs)
 |_=>G
def KZ:SV->Bool
 | .undef=>M
 |_=>I
def xc:bc->Bool
 | []=>M
 |x::l=>aT (KZ x) I (xc l)
def jD (o:Z SO) (off n:Nat):Z (pJ×bc):=
 match o with
 |some (.cells e cs)=>V (e,cs)
 |some (.ro cs)=>aT (xc ((cs.drop off).take n)) (V (0,cs)) G
 |_=>G
def mj (h:Hf) (id off n:Nat):Z bc:=az (jD (h id) off n) λp=>aT (kQ (wW off n) p.2.length) (V ((p.2.drop off).take n)) G
def rowOf (x:SV):Hf->Nat->Z bc:=match x with
 | .sl i o n _=>λh size=>mj h i o (B' n size)
 | .sle=>λ_ _=>V []
 | .cq=>λ_ _=>V []
 |_=>λ_ _=>G
def wide (i:TI):Nat:=aT (mT i.desc) i.size 1
def rm (E:Env) (h:Hf) (t:pJ) (v:SV):fV:=az (xj v) λq=>az (E.ty.get t) λi=>az (jD (h q.1) q.2 (wide i)) λp=>je i p.2 q.2
def wQ (E:Env) (h:Hf) (t:pJ) (v:SV) (a:SV):Z gO:=
 az (xj a) λq=>vd (E.ty.get t) v.cells (mh (h q.1)) λi xs p=>aT (ku xs.length i.size&&kQ (wW q.2 xs.length) p.2.length) (V [(q.1,V (.cells p.1 (eB p.2 q.2 xs)))]) G
def Di (E:Env) (e:pJ) (id off n k:Nat):fV:=aT (kQ (LJ k) n) (az (E.ty.get e) λie=>V (.ptr id (wW off (B' k ie.size)))) G
def JF (d:UD):Env->SV->Nat->fV:=match d with
 | .slice e=>λE x k=>az (azN x) λq=>Di E e q.1 q.2.1 q.2.2.1 k
 | .array n e=>λE x k=>az (xj x) λq=>Di E e q.1 q.2 n k
 |_=>λ_ _ _=>G
def rp (E:Env) (t:pJ) (x:SV) (k:Nat):fV:=az (E.ty.get t) λi=>JF i.desc E x k
def mc (tm:Tf):Z Ew->Z cD
 |none=>V G
 |some x=>az (dB tm x) λv=>az (oP v) λn=>V (V n)
def zx (m:Cp) (l:Nat):Cp:=
 match m with
 | .k c=>.k (aau c l)
 | .u e=>.u e
def B9 (id off l h size:Nat) (m:Cp):SV:=aT (ku l 0) (.sl id off h m) (aT (kQ (LJ l) h) (.sl id (wW off (B' l size)) (aau h l) (zx m l)) .sle)
def apx (mx:cD) (h reach:Nat):Bool:=
 match mx with
 |some m=>kQ h m&&kQ m reach
 |none=>M
def orC (a:cD) (b:Cp):Cp:=
 match a with
 |some m=>.k m
 |none=>b
def reach (c:Cp) (n:Nat):Nat:=
 match c with
 | .k m=>m
 | .u _=>n
def acU (c:Cp) (e:pJ):Bool:=
 match c with
 | .k _=>M
 | .u e'=>ku e' e
def zW (E:Env) (e:pJ) (id off n:Nat) (cap:Cp) (lo hi mx:cD):fV:=
 az (E.ty.get e) λie=>aT (acU cap e&&(kQ (lo.getD 0) (hi.getD n)&&(kQ (hi.getD n) (reach cap n)&&apx mx (hi.getD n) (reach cap n)))) (V (B9 id off (lo.getD 0) (hi.getD n) ie.size (orC mx cap))) G
def aeI (s:U) (lo hi mx:cD):fV:=
 match mx with
 |some _=>G
 |none=>aT (kQ (lo.getD 0) (hi.getD s.size)&&kQ (hi.getD s.size) s.size) (V (.str (s.extract (lo.getD 0) (hi.getD s.size)))) G
def oF:cD->Bool
 |some n=>ku n 0
 |none=>M
def LA (x:SV):Env->pJ->cD->cD->cD->fV:=match x with
 | .sl i o n c=>λE e lo hi mx=>zW E e i o n c lo hi mx
 | .sle=>λ_ _ lo hi mx=>aT (oF lo&&(oF hi&&mx.isNone)) (V .sle) G
 | .cq=>λ_ _ lo hi mx=>aT (oF lo&&(oF hi&&oF mx)) (V .cq) G
 |_=>λ_ _ _ _ _=>G
def auS (d:UD):Env->SV->cD->cD->cD->fV:=match d with
 | .string=>λ_ x lo hi mx=>az (strOf x) λs=>aeI s lo hi mx
 | .slice e=>λE x lo hi mx=>az (E.ty.get e) λ_=>LA x E e lo hi mx
 | .array n e=>λE x lo hi mx=>az (xj x) λq=>zW E e q.1 q.2 n (.k n) lo hi mx
 |_=>λ_ _ _ _ _=>G
def aDr (hi mx:cD):Bool:=
 match mx with
 |some _=>hi.isSome
 |none=>M
def Hm (E:Env) (t:pJ) (x:SV) (lo hi mx:cD):fV:=az (E.ty.get t) λi=>aT (aDr hi mx) (auS i.desc E x lo hi mx) G
def HZ (s:U):bc:=s.data.toList.map λb=>.int .u8 (.lit b.toNat)
def Bg (h:Hf) (size:Nat) (x:SV):Z (Nat×bc):=cC (QN x) (rowOf x h size) λn xs=>V (n,xs)
def srcV (x:SV):Hf->Nat->SV->Z (Nat×bc):=match x with
 | .str b=>λ_ size _=>aT (ku size 1) (V (b.size,HZ b)) G
 |_=>λh size x=>Bg h size x
def oK (h:Hf) (size:Nat) (x:SV):Z (Nat×bc):=srcV x h size x
def nN (ie:TI):Bool:=kQ ie.bytes 65536&&(kQ 1 ie.size&&ku ie.zero.length ie.size)
def CD (new:Nat) (e:pJ) (n:Nat) (cs:bc) (us:gO):gG:=V (.sl new 0 n (.u e),us++ [(new,V (.cells e cs))])
def abb (new:Nat) (e:pJ) (size id off n:Nat) (cap:Cp) (m:Nat) (xs:bc) (p:pJ×bc) (old:bc):gG:=
 match cap with
 | .k c=>
  aT (kQ (wW n m) c)
   (aT (kQ (wW off (B' (wW n m) size)) p.2.length) (V (.sl id off (wW n m) cap,[(id,V (.cells p.1 (eB p.2 (wW off (B' n size)) xs)))])) G)
   (CD new e (wW n m) (old++xs) [])
 | .u _=>aT (kQ (wW off (B' n size)) p.2.length&&ku e p.1) (CD new e (wW n m) (old++xs) [(id,G)]) G
def aqp (n m:Nat):Cp->Bool
 | .k c=>kQ (LJ c) (wW n m)
 | .u _=>I
def OX (h:Hf) (new:Nat) (e:pJ) (size m:Nat) (xs:bc) (id off n:Nat) (cap:Cp):gG:=aT (kQ n 1000000) (aT (aqp n m cap) (az (mj h id off (B' n size)) λold=>CD new e (wW n m) (old++xs) []) (cC (mh (h id)) (mj h id off (B' n size)) λp old=>abb new e size id off n cap m xs p old)) G
def si (x:SV):Hf->Nat->pJ->Nat->Nat->bc->gG:=match x with
 | .sl i o n c=>λh new e size m xs=>OX h new e size m xs i o n c
 | .cq=>λ_ new e _ m xs=>CD new e m xs []
 |_=>λ_ _ _ _ _ _=>G
def OW (E:Env) (h:Hf) (new:Nat) (e:pJ) (s x:SV):gG:=
 az (E.ty.get e) λie=>aT (nN ie) (az (oK h ie.size x) λq=>aT (kQ q.1 1000000) (aT (ku q.1 0) (aT (L6 s) (V (s,[])) G) (si s h new e ie.size q.1 q.2)) G) G
def po (d:UD):Z pJ:=match d with
 | .slice e=>V e
 |_=>G
def pZ (E:Env) (h:Hf) (new:Nat) (t:pJ) (s x:SV):gG:=az (E.ty.get t) λi=>az (po i.desc) λe=>OW E h new e s x
def HW (h:Hf) (size n:Nat) (xs:bc) (id off:Nat):gG:=az (mh (h id)) λp=>aT (kQ (wW off (B' n size)) p.2.length) (V (.int .i64 (.lit (.ofNat n)),[(id,V (.cells p.1 (eB p.2 off (xs.take (B' n size)))))])) G
def Et (x:SV):Hf->Nat->Nat->bc->gG:=match x with
 | .sl i o _ _=>λh size n xs=>HW h size n xs i o
 | .sle=>λ_ _ n _=>V (.int .i64 (.lit (.ofNat n)),[])
 | .cq=>λ_ _ n _=>V (.int .i64 (.lit (.ofNat n)),[])
 |_=>λ_ _ _ _=>G
def aqR (E:Env) (h:Hf) (e:pJ) (d s:SV):gG:=
 az (E.ty.get e) λie=>aT (nN ie) (cC (QN d) (oK h ie.size s) λnd q=>Et d h ie.size (aT (kQ q.1 nd) q.1 nd) q.2) G
def AP (E:Env) (h:Hf) (t:pJ) (d s:SV):gG:=az (E.ty.get t) λi=>az (po i.desc) λe=>aqR E h e d s
def HG (d:UD):Bool:=match d with
 | .string=>M
 |_=>I
def OF (d:UD):Bool:=match d with
 | .bool=>M
 |_=>I
def isLit:SI->Bool
 | .lit _=>M
def apO (k:O'):UD->Bool
 | .int k'=>ij k k'
 |_=>I
def LX (x:SV):UD->Bool:=match x with
 | .bool _=>λd=>OF d
 | .int k e=>λd=>isLit e&&apO k d
 | .str _=>λd=>HG d
 |_=>λ_=>I
def aCK:SI->SI->Z Bool
 | .lit a,.lit b=>V (JD a b)
def sameKey (x:SV):SV->Z Bool:=match x with
 | .bool a=>λy=>axI (.bool a) y
 | .int k a=>λy=>az (intOf y) λp=>aT (ij k p.1) (aCK a p.2) G
 | .str a=>λy=>eqStr (.str a) y
 |_=>λ_=>G
def rC (k:SV):ig->Nat->Z (Z (Nat×SV×Nat))
 | [],_=>V G
 |e::es,i=>
  match sameKey k e.1 with
  |some M=>V (V (i,e.2.1,e.2.2))
  |some I=>rC k es (wW i 1)
  |none=>G
def kN:Z SO->Z (ig×Nat)
 |some (.map es c)=>V (es,c)
 |_=>G
def agO (x:SV):Hf->Z ig:=match x with
 | .mp i=>λh=>az (kN (h i)) λp=>V p.1
 | .pC=>λ_=>V []
 |_=>λ_=>G
def okV (ok:Bool) (v:SV) (b:Bool):SV:=aT ok (.dr [v,.bool b]) v
def Mw (ok:Bool) (z:fV):Z (Nat×SV×Nat)->fV
 |some r=>V (okV ok r.2.1 M)
 |none=>az z λz=>V (okV ok z I)
def Gv (d:UD):Z (pJ×pJ):=match d with
 | .map k e=>V (k,e)
 |_=>G
def wu (E:Env) (h:Hf) (t:pJ) (x k:SV) (ok:Bool):fV:=
 az (E.ty.get t) λi=>az (Gv i.desc) λq=>cC (E.ty.get q.1) (E.ty.get q.2) λik ie=>aT (LX k ik.desc) (az (agO x h) λes=>az (rC k es 0) λr=>Mw ok (je ie ie.zero 0) r) G
def acS (es:ig) (c:Nat) (k v:SV):Z (Nat×SV×Nat)->SO
 |some r=>.map (es.set r.1 (k,v,r.2.2)) c
 |none=>.map (es++ [(k,v,c)]) (wW c 1)
def BR (E:Env) (h:Hf) (t:pJ) (x k v:SV):Z gO:=
 az (aAg x) λid=>az (E.ty.get t) λi=>az (Gv i.desc) λq=>cC (E.ty.get q.1) (kN (h id)) λik p=>aT (LX k ik.desc) (az (rC k p.1 0) λr=>V [(id,V (acS p.1 p.2 k v r))]) G
def wH (n:Nat):SV:=.int .i64 (.lit (.ofNat n))
def aAn (x:SV):Hf->fV:=match x with
 | .mp i=>λh=>az (kN (h i)) λp=>V (wH p.1.length)
 | .pC=>λ_=>V (wH 0)
 |_=>λ_=>G
def BZ (d:UD):SV->Hf->fV:=match d with
 | .string=>λx _=>az (strOf x) λs=>V (wH s.size)
 | .slice _=>λx _=>az (QN x) λn=>V (wH n)
 | .array n _=>λ_ _=>V (wH n)
 | .map _ _=>λx h=>aAn x h
 |_=>λ_ _=>G
def gA (tm:Tf):List Ew->Z bc
 | []=>V []
 |x::xs=>cC (dB tm x) (gA tm xs) λv l=>V (v::l)
def same (r:fV):gG:=az r λv=>V (v,[])
def unit (r:Z gO):gG:=az r λus=>V (.dr [],us)
def one (tm:Tf) (x:Ew) (f:SV->gG):gG:=az (dB tm x) f
def two (tm:Tf) (x y:Ew) (f:SV->SV->gG):gG:=cC (dB tm x) (dB tm y) f
def aHD (E:Env) (new:Nat) (e:pJ):gG:=az (E.ty.get e) λi=>V (.ptr new 0,[(new,V (.cells e i.zero))])
def apr (new:Nat) (e:pJ) (v:SV):gG:=az v.cells λcs=>V (.ptr new 0,[(new,V (.cells e cs))])
def qb (E:Env) (new:Nat) (t:pJ) (len:Nat) (jo:List (Nat×bc)):gG:=
 az (E.ty.get t) λi=>az (po i.desc) λe=>az (E.ty.get e) λie=>
  aT (nN ie&&kQ (B' len ie.size) 16777216) (az (oe (tX ie.size) (rep ie.zero len) jo) λcs=>V (.sl new 0 len (.k len),[(new,V (.cells e cs))])) G
def afu:Fn->Bool
 | .func _=>M
 |_=>I
def aJN (tm:Tf) (f:Fn) (a c:List Ew):gG:=aT (afu f) (cC (gA tm a) (gA tm c) λl m=>V (.fn f l m,[])) G
def afB (new:Nat):gG:=V (.mp new,[(new,V (.map [] 0))])
def aPe (E:Env) (tm:Tf) (new:Nat) (t:pJ):Z Ew->gG
 |none=>afB new
 |some x=>cC (E.ty.get t) (dB tm x) λi v=>cC (Gv i.desc) (oP v) λ_ _=>afB new
def Hy (E:Env) (new:Nat) (t:pJ) (l c:Nat):gG:=
 az (E.ty.get t) λi=>az (po i.desc) λe=>az (E.ty.get e) λie=>
  aT (kQ l c&&(kQ c 1000000&&nN ie)) (V (.sl new 0 l (.k c),[(new,V (.cells e (rep ie.zero c)))])) G
def zy (d:UD):Z (List FL):=match d with
 | .struct fs=>V fs
 |_=>G
def rK (E:Env) (s:pJ) (f:Nat) (v:SV):gG:=
 cC (E.ty.get s) (xj v) λi p=>az (zy i.desc) λfs=>az (fs[f]?) λfl=>az (E.ty.get fl.type) λfi=>aT (kQ 1 fi.size) (V (.ptr p.1 (wW p.2 fl.off),[])) G
def De (E:Env) (t:pJ) (f:Nat) (v:SV):gG:=
 cC (E.ty.get t) (OZ v) λi cs=>az (zy i.desc) λfs=>az (fs[f]?) λfl=>az (E.ty.get fl.type) λfi=>same (je fi cs fl.off)
def agb (d:UD):Env->Nat->SV->gG:=match d with
 | .string=>λ_ k v=>az (strOf v) λs=>az (s.data.toList[k]?) λb=>V (.int .u8 (.lit (.ofNat b.toNat)),[])
 | .array n e=>λE k v=>cC (OZ v) (E.ty.get e) λcs ie=>aT (kQ (LJ k) n) (same (je ie cs (B' k ie.size))) G
 |_=>λ_ _ _=>G
def Ad (E:Env) (t:pJ) (k:Nat) (v:SV):gG:=az (E.ty.get t) λi=>agb i.desc E k v
def avn (x:SV):Hf->Z SO:=match x with
 | .mp i=>λh=>az (kN (h i)) λp=>V (.mapIter (V i) p.2 [] p.2)
 | .pC=>λ_=>V (.mapIter G 0 [] 0)
 |_=>λ_=>G
def Hu (d:UD) (v:SV) (h:Hf):Z SO:=
 match d with
 | .string=>az (strOf v) λs=>V (.pY s 0)
 | .map _ _=>avn v h
 |_=>G
def Ac (E:Env) (h:Hf) (new:Nat) (t:pJ) (v:SV):gG:=az (E.ty.get t) λi=>az (Hu i.desc v h) λo=>V (.ptr new 0,[(new,V o)])
def OE:Z SO->Z (U×Nat)
 |some (.pY s p)=>V (s,p)
 |_=>G
def akS (v:SV):cD:=az (xj v) λq=>aT (ku q.2 0) (V q.1) G
def HB (id:Nat) (p:U×Nat):SV×gO:=
 aT (kQ (LJ p.2) p.1.size) (.dr [.bool M,wH p.2,.int .i32 (.lit (Z' p.1 p.2).1)],[(id,V (.pY p.1 (wW p.2 (Z' p.1 p.2).2)))]) (.dr [.bool I],[])
def DU (h:Hf) (Cl:Bool) (v:SV):gG:=aT Cl (az (akS v) λid=>az (OE (h id)) λp=>V (HB id p)) G
def Yj (E:Env) (mx:Bool) (x y:SV):fV:=cC (intOf x) (intOf y) λa b=>az (aT mx (Fj E a.2 b.2) (Fj E b.2 a.2)) λr=>V (.int a.1 (aT r b.2 a.2))
def Jk:UD->Bool
 | .slice _=>M
 | .string=>M
 |_=>I
def xG {J:Type}:List J->Z (J×J)
 | [a,b]=>V (a,b)
 |_=>G
def pM (E:Env) (h:Hf) (new:Nat) (b:Builtin) (aa:bc) (ts:List pJ):gG:=
 match b with
 | .len=>cC aa.head? ts.head? λx t=>aT (ku aa.length 1) (az (E.ty.get t) λi=>same (BZ i.desc x h)) G
 | .append=>cC (xG aa) (xG ts) λp q=>az (E.ty.get q.2) λi=>aT (Jk i.desc) (pZ E h new q.1 p.1 p.2) G
 | .copy=>cC (xG aa) ts.head? λp t=>AP E h t p.1 p.2
 | .min=>az (xG aa) λp=>same (Yj E I p.1 p.2)
 | .max=>az (xG aa) λp=>same (Yj E M p.1 p.2)
 |_=>G
def tY (E:Env) (tm:Tf) (h:Hf) (new:Nat) (c:Call):gG:=
 match c.callee with
 | .builtin b=>az (gA tm c.args.toList) λaa=>pM E h new b aa c.argTypes.toList
 |_=>G
def opD (o:Op):Env->Tf->Hf->Nat->gG:=match o with
 | .move x=>λ_ tm _ _=>one tm x λv=>V (v,[])
 | .assign x=>λ_ tm _ _=>one tm x λv=>V (v,[])
 | .pick c x y=>λ_ tm _ _=>az (dB tm c) λv=>az (ug v) λb=>one tm (aT b x y) λv=>V (v,[])
 | .alloc e=>λE _ _ new=>aHD E new e
 | .box e x=>λ_ tm _ new=>one tm x (apr new e)
 | .build t parts=>λE tm _ _=>az (ma tm parts.toList) λjo=>same (MP E t jo)
 | .buildSlice t len parts=>λE tm _ new=>az (ma tm parts.toList) λjo=>qb E new t len jo
 | .insert t m k x=>λE tm h _=>two tm m k λa b=>one tm x λc=>unit (BR E h t a b c)
 | .load t x=>λE tm h _=>one tm x λv=>same (rm E h t v)
 | .store t x y=>λE tm h _=>two tm x y λa v=>unit (wQ E h t v a)
 | .nilCheck x=>λ_ tm _ _=>one tm x λv=>same (aaC v)
 | .binOp op t x y _=>λE tm _ _=>two tm x y λv u=>same (Ri E op t x y v u)
 | .unOp op _ x=>λ_ tm _ _=>one tm x λv=>same (unA op v)
 | .convert s d x=>λE tm _ _=>one tm x λv=>same (To E s d v)
 | .makeFunc f a c=>λ_ tm _ _=>aJN tm f a.toList c.toList
 | .makeMap t r=>λE tm _ new=>aPe E tm new t r
 | .makeSlice t l c=>λE tm _ new=>two tm l c λu v=>cC (oP u) (oP v) (Hy E new t)
 | .slice t x lo hi mx=>λE tm _ _=>one tm x λv=>vd (mc tm lo) (mc tm hi) (mc tm mx) λl u m=>same (Hm E t v l u m)
 | .fieldAddr s x f=>λE tm _ _=>one tm x (rK E s f)
 | .field t x f=>λE tm _ _=>one tm x (De E t f)
 | .indexAddr t x ix=>λE tm _ _=>two tm x ix λv u=>az (oP u) λk=>same (rp E t v k)
 | .index t x ix=>λE tm _ _=>two tm x ix λv u=>az (oP u) λk=>Ad E t k v
 | .lookup t x k ok=>λE tm h _=>two tm x k λa b=>same (wu E h t a b ok)
 | .mapUpdate t m k x=>λE tm h _=>two tm m k λa b=>one tm x λc=>unit (BR E h t a b c)
 | .range t x=>λE tm h new=>one tm x (Ac E h new t)
 | .next it Cl=>λ_ tm h _=>one tm it (DU h Cl)
 | .extract x i=>λ_ tm _ _=>one tm x λv=>az (RW v) λvs=>same (vs[i]?)
 | .call c=>λE tm h new=>tY E tm h new c
 |_=>λ_ _ _ _=>G
def vu (E:Env) (op:Op) (tm:Tf) (h:Hf) (new:Nat):gG:=opD op E tm h new
inductive Ex where
 |normal|exit (id:Nat)|ret|zp (v:SV)
 deriving Inhabited
def setArgs (vs:bc):Nat->La->La:= @List.rec SV (λ_=>Nat->La->La) (λ_ t=>t) (λv _ ih i t=>ih (wW i 1) (t.set i (V v))) vs
def mX (nt:Nat) (d:cD):Bool:= @Option.rec Nat (λ_=>Bool) M (λd=>kQ (LJ d) nt) d
def aOW (x:SV):Bool->Z Bool:=match x with
 | .bool b=>λwant=>V (b==want)
 | .dr _=>λ_=>V I
 |_=>λ_=>G
def aox (want:Bool) (x:SV):Z Bool:=aOW x want
def LM (l:nu):Nat->cD:= @List.rec S' (λ_=>Nat->cD) (λ_=>G) (λo _ ih j=> @Nat.rec (λ_=>cD) o.dst (λk _=>ih k) j) l
def xP (ops:nu) (tm:Tf) (j:Nat) (want:Bool):Z Bool:= @Option.rec Nat (λ_=>Z Bool) (V I) (λt=>az (tm t) (aox want)) (LM ops j)
def j0 (ops:nu) (o:S') (tm:Tf):Z Bool:= @Option.rec (Nat×Bool) (λ_=>Z Bool) (V M) (λg=>xP ops tm g.1 g.2) o.guard
def Sn (E:Env) (tm:Tf) (h:Hf):ab2->fV
 | .tmp t=>tm t
 | .cell t ty=>az (tm t) (rm E h ty)
def zY (E:Env) (tm:Tf) (h:Hf):List ab2->Z bc
 | []=>V []
 |r::rs=>cC (Sn E tm h r) (zY E tm h rs) λv l=>V (v::l)
def oneOf:bc->SV
 | [v]=>v
 |vs=>.dr vs
def Dk:List UInt8->List UInt8->Bool
 | [],[]=>I
 | [],_::_=>M
 |_::_,[]=>I
 |a::l,b::m=>aT (kQ (LJ a.toNat) b.toNat) M (aT (ku a.toNat b.toNat) (Dk l m) I)
def MN (a b:U):Int:=aT (Dk a.data.toList b.data.toList) (-1) (aT (uf a.data.toList b.data.toList) 0 1)
def leave (id:Nat) (e:Ex):Ex:= @Ex.rec (λ_=>Ex) .normal (λid'=>aT (ku id' id) .normal (.exit id')) .ret (λv=>.zp v) e
def aqn (E:Env):SV->Bool
 | .fn (.func k) _ _=> @Option.rec Func (λ_=>Bool) I (λfn=>fn.body.isSome) (E.fn.get k)
 |_=>I
def Ao (tm:Tf):Callee->fV
 | .value x=>dB tm x
 |_=>G
def Jx (x:Nat):bJ->Bool
 | []=>I
 |y::l=>aT (ku x y) M (Jx x l)
def qw (seen:bJ) (es:ig):ig:=es.filter λe=> !Jx e.2.2 seen
def iterM (since:Nat) (seen:bJ) (last c:Nat) (es:ig):Bool:=
 es.all (λe=>kQ (LJ e.2.2) since)&&kQ since last
def OD:bJ->cD
 | []=>G
 | [a]=>V a
 |_::l=>OD l
def FA (b:Nat):ig->fV
 | []=>G
 |e::es=>aT (ku e.2.2 b) (V (.dr [e.1,e.2.1])) (FA b es)
def MC (h:Hf) (id:Nat):fV:=
 match h id with
 |some (.mapIter (V m) since seen last)=>
  (match h m with
  |some (.map es c)=>aT (ku c last) (az (OD seen) λb=>FA b es) G
  |_=>G)
 |_=>G
def force {f8:Type} (m:Nat) (f:Nat->f8):f8:=Nat.rec (f 0) (λk _=>f (k+1)) m
def GF (o:S'):bJ:=(o.after.toList.filter (Region.binds .any ·)).map (·.on)
def atO (W f7:Nat):bJ->Nat
 | []=>0
 |i::ds=>Nat.lor (atO W f7 ds) (Nat.lor (Nat.shiftLeft 1 i) (aa3 (Nat.shiftRight f7 (B' i W)) (Nat.pow 2 W)))
def bitB (m i:Nat):Bool:=ku (Nat.land (Nat.shiftRight m i) 1) 1
def mE (x:Nat):bJ->Bool
 | []=>I
 |y::l=>aT (ku x y) M (mE x l)
def wx:bJ->bJ->Bool
 | [],_=>M
 |x::l,m=>aT (mE x m) I (wx l m)
def ln:fV->bJ
 |some (.ptr i _)=> [i]
 |some (.sl i _ _ _)=> [i]
 |some (.mp i)=> [i]
 |_=> []
def qx (tm:Tf):List Ew->bJ
 | []=> []
 |x::xs=>ln (dB tm x)++qx tm xs
def idM:fV->bJ
 |some (.mp i)=> [i]
 |_=> []
def JG (tm:Tf):List Ew->bJ
 | []=> []
 |x::xs=>idM (dB tm x)++JG tm xs
def vC (c:Call):Bool:=
 match c.callee with
 | .builtin .len=>M
 |_=>I
def Oq (op:Op) (tm:Tf):bJ:=
 match op with
 | .load _ x=>qx tm [x]
 | .store _ x y=>qx tm [x,y]
 | .lookup _ x k _=>qx tm [x,k]
 | .mapUpdate _ m k x=>qx tm [m,k,x]
 | .insert _ m k x=>qx tm [m,k,x]
 | .next it _=>qx tm [it]
 | .range _ x=>qx tm [x]
 | .call c=>aT (vC c) (JG tm c.args.toList) (qx tm c.args.toList)
 |_=> []
def acX:List Ew->bJ
 | []=> []
 |x::xs=>(match x with| .tmp t=>t::acX xs|_=>acX xs)
def looks (all:nu) (o:S'):bJ:=acX o.op.operands.toList++(match o.guard with|some g=>(LM all g.1).toList|none=> [])
def Sj (all:nu) (p r:S'):Bool:=wx p.dst.toList (looks all r)&&(wx r.dst.toList (looks all p)&&wx p.dst.toList r.dst.toList)
def Qx (all:nu) (m:Nat) (r:S'):Nat->nu->Bool
 |_,[]=>M
 |k,p::ps=>aT (bitB m k) (Qx all m r (aau k 1) ps) (aT (Sj all p r) (Qx all m r (aau k 1) ps) I)
def alP (W:Nat) (all:nu):nu->Nat->Nat->nu->Bool
 | [],_,_,_=>M
 |o::l,i,f7,prev=>force (aa3 (atO W f7 (GF o)) (Nat.pow 2 W)) λm=>aT (Qx all m o (aau i 1) prev) (force (Nat.lor f7 (Nat.shiftLeft m (B' i W))) λM'=>alP W all l (wW i 1) M' (o::prev)) I
def codeOk (c:P'):Bool:= @Code.rec (λ_=>Bool) M (λ_ ops draw=>aT draw (alP ops.size ops.toList ops.toList 0 0 []) M) (λ_ _ a b=>a&&b) (λ_ _ _ a b=>a&&b) (λ_ _ a=>a) (λ_ a=>a) (λ_ _ _ _ a b=>a&&b) (λ_=>M) (λ_ a=>a) (λ_=>M) (λ_=>M) M (λ_=>M) c
def aqo (fn:Func):Bool:= @Option.rec P' (λ_=>Bool) M codeOk fn.body
def aFu (e:Ex):Z fV:= @Ex.rec (λ_=>Z fV) (V G) (λ_=>G) (V G) (λv=>V (V v)) e
def L7 (s:String):Bool:=s== "runtime.NumGoroutine"
def S1 (e:Ex):Bool:= @Ex.rec (λ_=>Bool) M (λ_=>I) M (λ_=>I) e
def tE (e:Ex):Bool:= @Ex.rec (λ_=>Bool) M (λ_=>I) I (λ_=>I) e
def B8 (A B C:Nat) (svs:bc):bc:=svs.take A++((svs.drop B).take (aau C B)++(V' (aau B A) .undef++svs.drop C))
def B5 {J:Type} (xs:List J) (k:Nat) (ys:List J):List J:=xs.take k++(ys++xs.drop k)
def ara (off len sz:Nat):Cp->Bool
 | .k m=>kQ (wW off (B' m sz)) len
 | .u _=>M
def aqN (sz:Nat) (f:Hf):bc->gG
 | [.sl id off n c,.int .i64 a,.int .i64 b]=>vd (Yi a) (Yi b) (mh (f id)) λi j p=>
   aT (kQ (LJ i) j&&(kQ j n&&kQ (wW off (B' n sz)) p.2.length)) (V (.sl id off (aau n (aau j i)) c,[(id,V (.cells p.1 (B8 (wW off (B' i sz)) (wW off (B' j sz)) (wW off (B' n sz)) p.2)))])) G
 |_=>G
def apP (e:pJ) (sz:Nat) (f:Hf) (new:Nat):bc->gG
 | [.sl id off n c,.int .i64 a,.sl Fp xz q c2]=>vd (Yi a) (mh (f id)) (mh (f Fp)) λi p p2=>
   aT (kQ i n&&(kQ 1 q&&(kQ n 1000000&&(kQ q 1000000&&(!ku id Fp&&(ku p.1 e&&(kQ (wW off (B' n sz)) p.2.length&&(kQ (wW xz (B' q sz)) p2.2.length&&ara off p.2.length sz c))))))))
    (V (.sl new 0 (wW n q) (.u e),[(id,G),(new,V (.cells e (B5 ((p.2.drop off).take (B' n sz)) (B' i sz) ((p2.2.drop xz).take (B' q sz)))))])) G
 |_=>G
def B4 (x:Int):List Int->List Int
 | []=> [x]
 |y::ys=>if x<=y then x::y::ys else y::B4 x ys
def eX:List Int->List Int
 | []=> []
 |x::xs=>B4 x (eX xs)
def lP:List Int->List Int
 | []=> []
 |x::xs=>match xs with
  | []=> [x]
  |y::_=>if x=y then lP xs else x::lP xs
def ddZ (xs:List Int):List Int:=lP xs++V' (xs.length-(lP xs).length) 0
def CG (b:Bool) (xs:List Int):List Int:=aT b (eX xs) (ddZ xs)
def LY:SV->Z Int
 | .int .i64 (.lit x)=>V x
 |_=>G
def JC (l:bc):Z (List Int):= @List.rec SV (λ_=>Z (List Int)) (V []) (λv _ ih=>cC (LY v) ih λx r=>V (x::r)) l
def fq (l:List Int):bc:=l.map λx=>.int .i64 (.lit x)
def aaK (b:Bool) (f:Hf):bc->gG
 | [.cq]=>V (aT b (.dr []) .cq,[])
 | [.sl id off n c]=>aT (ku n 0) (V (aT b (.dr []) (.sl id off 0 c),[])) (az (mh (f id)) λp=>az (JC ((p.2.drop off).take n)) λxs=>
   aT (kQ 1 n&&(kQ (wW off n) p.2.length&&kQ n 4294967295)) (V (aT b (.dr []) (.sl id off (lP xs).length c),[(id,V (.cells p.1 (p.2.take off++(fq (CG b xs)++p.2.drop (wW off n)))))])) G)
 |_=>G
def xk (E:Env) (c:Nat) (f:Hf) (new:Nat) (aa:bc):gG:=
 aT (kQ 1048576 c) (aaK (ku c 1048576) f aa) (az (E.ty.get (U' c 2)) λie=>aT (ku (aa3 c 2) 0) (aqN ie.size f aa) (apP (U' c 2) ie.size f new aa))
def Js (k:Nat):List (Nat×Nat)->cD
 | []=>G
 |p::l=>aT (ku p.1 k) (V p.2) (Js k l)
end Go.bM
namespace Go.bM
open Go.RowKit
variable {J γ f8:Type} {x ox:Ew} {r z v u u1:C'} {nt o n i off k c l new f7:Nat} {w' w0:World} {e t src tx ty:pJ} {p:U×Nat} {s:U} {q fz:Nat×Nat} {a:Act} {neg:Bool} {ob:Obj} {parts:Array (Nat×C')} {it:TypeInfo} {kl kk:O'} {lo:Z Ew} {base:Z Addr}
section
variable {δ:Type} {w:World}
def cE (b:Bool) (x y:J):aT b x y=if b=M then x else y:=by cases b<;>rfl
def ba {b:Bool} {x:Z J} {r:J} (h:aT b x G=V r):b=M/\x=V r:=by
 cases b
 ·simp[aT] at h
 ·exact ⟨rfl,h⟩
def aq {x:Z J} {f:J->Z γ} {r:γ} (h:az x f=V r):∃a,x=V a/\f a=V r:=by
 cases x with
 |none=>cases h
 |some a=>exact ⟨a,rfl,h⟩
def bU {x:Z J} {y:Z f8} {f:J->f8->Z γ} {r:γ} (h:cC x y f=V r):∃a b,x=V a/\y=V b/\f a b=V r:=by
 cases x with
 |none=>cases h
 |some a=>
  cases y with
  |none=>cases h
  |some b=>exact ⟨a,b,rfl,rfl,h⟩
def CM {x:Z J} {y:Z f8} {z:Z δ} {f:J->f8->δ->Z γ} {r:γ} (h:vd x y z f=V r):∃a b c,x=V a/\y=V b/\z=V c/\f a b c=V r:=by
 let ⟨a,ha,h⟩:=aq h;let ⟨b,c,hb,hc,h⟩:=bU h;exact ⟨a,b,c,ha,hb,hc,h⟩
def beq_iff (a b:Nat):ku a b=M↔a=b:=⟨Nat.eq_of_beq_eq_true,λh=>by subst h;exact Nat.beq_refl a⟩
def beq_eq (a b:Nat):ku a b=iL (a=b):=by
 rw[nJ,beq_iff];simp
def bR (a b:Nat):kQ a b=M↔a<=b:=by rw[Nat.ble_eq]
def ble_eq (a b:Nat):kQ a b=iL (a<=b):=by
 rw[nJ,bR];simp
def Tr.get_nil (i:Nat):(Tr.nil:Tr J).get i=G:=rfl
def Tr.Ej (l r:Tr J) (v:Z J) (i:Nat):(Tr.node l v r).get i=if i=0 then v else if i % 2=1 then l.get (i / 2) else r.get (i / 2-1):=by
 show aT (ku i 0) v (aT (ku (aa3 i 2) 1) (l.get (U' i 2)) (r.get (aau (U' i 2) 1)))=_;rw[cE,cE,beq_eq,beq_eq];simp only[jA];rfl
def Tr.left {J:Type}:Tr J->Tr J
 | .nil=>.nil
 | .node l _ _=>l
def Tr.right {J:Type}:Tr J->Tr J
 | .nil=>.nil
 | .node _ _ r=>r
def Tr.val {J:Type}:Tr J->Z J
 | .nil=>G
 | .node _ v _=>v
def Tr.Mv (t:Tr J) (i:Nat):t.get i=if i=0 then t.val else if i % 2=1 then t.left.get (i / 2) else t.right.get (i / 2-1):=by
 cases t with
 |nil=>simp[Tr.val,Tr.left,Tr.right,Tr.get_nil]
 |node l v r=>rw[Tr.Ej];rfl
def Tr.auW (n:Nat) (t:Tr J) (i:Nat) (x:Z J):Tr.LC (n+1) t i x=
  if i=0 then .node t.left x t.right else if i % 2=1 then .node (Tr.LC n t.left (i / 2) x) t.val t.right else .node t.left t.val (Tr.LC n t.right (i / 2-1) x):=by
 have e:Tr.LC (n+1) t i x=aT (ku i 0) (Tr.node t.left x t.right) (aT (ku (aa3 i 2) 1) (.node (Tr.LC n t.left (U' i 2) x) t.val t.right) (.node t.left t.val (Tr.LC n t.right (aau (U' i 2) 1) x))):=by
  cases t<;>rfl
 rw[e,cE,cE,beq_eq,beq_eq];simp only[jA];rfl
def Tr.Q3 {J:Type}:∀(n:Nat) (t:Tr J) (i j:Nat) (x:Z J),i<n->(Tr.LC n t i x).get j=if j=i then x else t.get j
 |0,_,_,_,_,h=>by omega
 |n+1,t,i,j,x,h=>by
  rw[Tr.auW];by_cases h0:i=0
  ·subst h0;rw[aG rfl,Tr.Ej];by_cases hj:j=0
   ·simp[hj]
   ·rw[aC hj,aC hj,Tr.Mv t j,aC hj]
  ·rw[aC h0];by_cases h1:i % 2=1
   ·rw[aG h1,Tr.Ej,Tr.Mv t j];by_cases hj:j=0
    ·subst hj;rw[aG rfl,aG rfl,aC (by omega)]
    ·rw[aC hj,aC hj];by_cases Mj:j % 2=1
     ·rw[aG Mj,aG Mj,Tr.Q3 n _ _ _ _ (by omega)]
      by_cases e:j=i
      ·rw[aG e,aG (by omega)]
      ·rw[aC e,aC (by omega)]
     ·rw[aC Mj,aC Mj,aC (by omega)]
   ·rw[aC h1,Tr.Ej,Tr.Mv t j];by_cases hj:j=0
    ·subst hj;rw[aG rfl,aG rfl,aC (by omega)]
    ·rw[aC hj,aC hj];by_cases Mj:j % 2=1
     ·rw[aG Mj,aG Mj,aC (by omega)]
     ·rw[aC Mj,aC Mj,Tr.Q3 n _ _ _ _ (by omega)]
      by_cases e:j=i
      ·rw[aG e,aG (by omega)]
      ·rw[aC e,aC (by omega)]
def Tr.amQ (t:Tr J) (i j:Nat) (x:Z J):(t.set i x).get j=if j=i then x else t.get j:=Tr.Q3 (i+1) t i j x (by omega)
structure Gh where
 η:Nat->Int
 sz:pJ->Nat
 O:Nat->Option (Nat×Nat)
 lim:Nat->Nat
 et:Nat->pJ
 wb:Nat->Option Obj
structure Gh.le (g g':Gh):Prop where
 η:g'.η=g.η
 sz:g'.sz=g.sz
 O:∀id p,g.O id=V p->g'.O id=V p
 lim:∀id p,g.O id=V p->g'.lim id=g.lim id
 et:∀id p,g.O id=V p->g'.et id=g.et id
 wb:g'.wb=g.wb
def Gh.le.refl (g:Gh):g.le g:=⟨rfl,rfl,λ_ _ h=>h,λ_ _ _=>rfl,λ_ _ _=>rfl,rfl⟩
def Gh.le.trans {a b c:Gh} (h:a.le b) (k:b.le c):a.le c:=
 ⟨k.η.trans h.η,k.sz.trans h.sz,λid p q=>k.O id p (h.O id p q),λid p q=>(k.lim id p (h.O id p q)).trans (h.lim id p q),λid p q=>(k.et id p (h.O id p q)).trans (h.et id p q),k.wb.trans h.wb⟩
mutual
inductive VR (g:Gh):C'->SV->Prop
 |bool (b:_):VR g (.bool b) (.bool b)
 |int (k e:_) {n:Int} (h:n=e.ev g.η):VR g (.int k n) (.int k e)
 |str (s:_):VR g (.string s) (.str s)
 |ptr {id off b o:_} (h:g.O id=V (b,o)):VR g (.pointer (V ⟨b,o+off,G⟩)) (.ptr id off)
 |vy:VR g (.pointer G) .vy
 |sl {id off n b o c:_} {cap:Cp} (h:g.O id=V (b,o)) (hn:n<=c) (hc:∀m,cap= .k m->c=m) (hl:∀e,cap= .u e->g.et id=e/\off+c*g.sz e<=g.lim id):VR g (.slice (V ⟨b,o+off,G⟩) n c) (.sl id off n cap)
 |sle {a c:_}:VR g (.slice a 0 c) .sle
 |cq:VR g (.slice G 0 0) .cq
 |mp {id b o:_} (h:g.O id=V (b,o)):VR g (.map (V b)) (.mp id)
 |pC:VR g (.map G) .pC
 |fn {f:FuncId} {first j5:jw} {fs cs:bc} (h1:mZ g first.toList fs) (h2:mZ g j5.toList cs):VR g (.func (.func f) first j5) (.fn (.func f) fs cs)
 |uJ:VR g .nilFunc .uJ
 |agg {vs:jw} {cs:_} (h:hY g vs.toList cs):VR g (.agg vs) (.agg cs)
 |dr {vs:jw} {cs:_} (h:mZ g vs.toList cs):VR g (.tuple vs) (.dr cs)
 |undef (v:_):VR g v .undef
inductive mZ (g:Gh):fG->bc->Prop
 |nil:mZ g [] []
 |cons {v x vs xs:_} (h:VR g v x) (ht:mZ g vs xs):mZ g (v::vs) (x::xs)
inductive hY (g:Gh):fG->bc->Prop
 |nil:hY g [] []
 |cons {v x vs xs:_} (h1:v.oneCell'=M) (h:VR g v x) (ht:hY g vs xs):hY g (v::vs) (x::xs)
end
mutual
def VR.mono {g g':Gh} (hle:g.le g'):∀{v x},VR g v x->VR g' v x
 |_,_,.bool b=>.bool b
 |_,_,.int k e h=>.int k e (by rw[hle.η];exact h)
 |_,_,.str s=>.str s
 |_,_,.ptr h=>.ptr (hle.O _ _ h)
 |_,_,.vy=>.vy
 |_,_,.sl h hn hc hl=>.sl (hle.O _ _ h) hn hc (λe he=>by rw[hle.sz,hle.et _ _ h,hle.lim _ _ h];exact hl e he)
 |_,_,.sle=>.sle
 |_,_,.cq=>.cq
 |_,_,.mp h=>.mp (hle.O _ _ h)
 |_,_,.pC=>.pC
 |_,_,.fn h1 h2=>.fn (h1.mono hle) (h2.mono hle)
 |_,_,.uJ=>.uJ
 |_,_,.agg h=>.agg (h.mono hle)
 |_,_,.dr h=>.dr (h.mono hle)
 |_,_,.undef v=>.undef v
def mZ.mono {g g':Gh} (hle:g.le g'):∀{v x},mZ g v x->mZ g' v x
 |_,_,.nil=>.nil
 |_,_,.cons h ht=>.cons (h.mono hle) (ht.mono hle)
def hY.mono {g g':Gh} (hle:g.le g'):∀{v x},hY g v x->hY g' v x
 |_,_,.nil=>.nil
 |_,_,.cons h1 h ht=>.cons h1 (h.mono hle) (ht.mono hle)
end
variable {g:Gh} {P:J5}
def hY.length:∀{vs:fG} {cs:bc},hY g vs cs->vs.length=cs.length
 |_,_,.nil=>rfl
 |_,_,.cons _ _ ht=>by simp[ht.length]
def mZ.length:∀{vs:fG} {cs:bc},mZ g vs cs->vs.length=cs.length
 |_,_,.nil=>rfl
 |_,_,.cons _ ht=>by simp[ht.length]
def hY.get:∀{vs:fG} {cs:bc},hY g vs cs->∀{j:Nat} {x:SV},cs[j]? =V x->∃v,vs[j]? =V v/\v.oneCell'=M/\VR g v x
 |_,_,.nil,_,_,h=>by simp at h
 |_,_,.cons h1 hd ht,j,x,h=>by
  cases j with
  |zero=>simp at h;subst h;exact ⟨_,rfl,h1,hd⟩
  |succ j=>simp at h;let ⟨v,a,b,c⟩:=ht.get h;exact ⟨v,by simpa using a,b,c⟩
def mZ.get:∀{vs:fG} {cs:bc},mZ g vs cs->∀{j:Nat} {x:SV},cs[j]? =V x->∃v,vs[j]? =V v/\VR g v x
 |_,_,.nil,_,_,h=>by simp at h
 |_,_,.cons hd ht,j,x,h=>by
  cases j with
  |zero=>simp at h;subst h;exact ⟨_,rfl,hd⟩
  |succ j=>simp at h;let ⟨v,a,c⟩:=ht.get h;exact ⟨v,by simpa using a,c⟩
def hY.append:∀{vs us:fG} {cs ds:bc},hY g vs cs->hY g us ds->hY g (vs++us) (cs++ds)
 |_,_,_,_,.nil,k=>k
 |_,_,_,_,.cons h1 hd ht,k=>.cons h1 hd (ht.append k)
def mZ.append:∀{vs us:fG} {cs ds:bc},mZ g vs cs->mZ g us ds->mZ g (vs++us) (cs++ds)
 |_,_,_,_,.nil,k=>k
 |_,_,_,_,.cons hd ht,k=>.cons hd (ht.append k)
def hY.drop:∀{vs:fG} {cs:bc} (n:Nat),hY g vs cs->hY g (vs.drop n) (cs.drop n)
 |_,_,0,h=>h
 |_,_,n+1,.nil=>by simpa using .nil
 |_,_,n+1,.cons _ _ ht=>by simpa using ht.drop n
def hY.take:∀{vs:fG} {cs:bc} (n:Nat),hY g vs cs->hY g (vs.take n) (cs.take n)
 |_,_,0,_=>by simpa using .nil
 |_,_,n+1,.nil=>by simpa using .nil
 |_,_,n+1,.cons h1 hd ht=>by simpa using .cons h1 hd (ht.take n)
def hY.one:∀{vs:fG} {cs:bc},hY g vs cs->∀v∈vs,v.oneCell'=M
 |_,_,.nil,v,hv=>by simp at hv
 |_,_,.cons h1 _ ht,v,hv=>by
  rcases da.1 hv with rfl|hv
  ·exact h1
  ·exact ht.one v hv
def hY.mk:∀{vs:fG} {cs:bc},vs.length=cs.length->(∀(j:Nat) (v:C') (x:SV),vs[j]? =V v->cs[j]? =V x->v.oneCell'=M/\VR g v x)->hY g vs cs
 | [],[],_,_=>.nil
 |v::vs,x::xs,hl,h=>by
  let ⟨a,b⟩:=h 0 v x rfl rfl;exact .cons a b (hY.mk (by simpa using hl) λj v x hv hx=>h (j+1) v x (by simpa using hv) (by simpa using hx))
 | [],_::_,hl,_=>by simp at hl
 |_::_,[],hl,_=>by simp at hl
structure Cells (g:Gh) (w:World) (id b o:Nat) (e:pJ) (cs:bc):Prop where
 mem:∃cur:jw,w.heap[b]? =V (.cells cur e (0,0))/\o+g.lim id<=cur.size/\∃vs,hY g vs cs/\∀j v,vs[j]? =V v->cur[o+j]? =V v
 et:g.et id=e
def asE (g:Gh) (m:aa0) (x:SV×SV×Nat):Prop:=VR g m.key x.1/\VR g m.val x.2.1/\m.born=x.2.2
inductive kp (g:Gh):List aa0->ig->Prop
 |nil:kp g [] []
 |cons {m x ms xs:_} (h:asE g m x) (ht:kp g ms xs):kp g (m::ms) (x::xs)
def kp.mono {g g':Gh} (hle:g.le g'):∀{ms:List aa0} {xs:ig},kp g ms xs->kp g' ms xs
 |_,_,.nil=>.nil
 |_,_,.cons h ht=>.cons ⟨h.1.mono hle,h.2.1.mono hle,h.2.2⟩ (ht.mono hle)
structure FR (g:Gh) (nt:Nat) (tm:Tf) (tmps:jw):Prop where
 sz:tmps.size=nt
 tm:∀t x,tm t=V x->VR g (tmps.getD t undef) x
def FR.mono {g g':Gh} (hle:g.le g') {tm:Tf} {tmps:jw} (h:FR g nt tm tmps):FR g' nt tm tmps:=⟨h.sz,λt x hx=>(h.tm t x hx).mono hle⟩
def OR (g:Gh) (w:World) (id b o:Nat):SO->Prop
 | .cells e cs=>Cells g w id b o e cs
 | .map es c=>∃ms,w.heap[b]? =V (.map ms c)/\kp g ms.toList es
 | .pY s pos=>o=0/\w.heap[b]? =V (.stringIter s pos)
 | .mapIter mp since seen last=>o=0/\∃(bm:cD) (sa:Array Nat),w.heap[b]? =V (.mapIter bm since sa last)/\sa.toList=seen/\(match mp with|none=>bm=G|some m=>∃x y,bm=V x/\g.O m=V (x,y))
 | .dfr=>w.heap[b]? =V (.deferred (V []))
 | .ro cs=>∃(cur:jw) (e:pJ) (fz:Nat×Nat),w.heap[b]? =V (.cells cur e fz)/\g.wb b=V (.cells cur e fz)/\∀j x,cs[j]? =V x->∃v,cur[o+j]? =V v/\(KZ x=I->v.oneCell'=M/\VR g v x)
def Cells.mono {g g':Gh} (hle:g.le g') {id b:Nat} {cs:bc} (hρ:g.O id=V (b,o)) (h:Cells g w id b o e cs) (hw:w'.heap[b]? =w.heap[b]?):Cells g' w' id b o e cs:=by
 let ⟨⟨cur,h1,h0,vs,h2,h3⟩,h4⟩:=h;exact ⟨⟨cur,hw.trans h1,by rw[hle.lim _ _ hρ];exact h0,vs,h2.mono hle,h3⟩,(hle.et _ _ hρ).trans h4⟩
def OR.mono {g g':Gh} (hle:g.le g') {id b:Nat} {x:SO} (hρ:g.O id=V (b,o)) (h:OR g w id b o x) (hw:w'.heap[b]? =w.heap[b]?):OR g' w' id b o x:=by
 cases x with
 |cells e cs=>exact Cells.mono hle hρ h hw
 |map es c=>let ⟨ms,h1,h2⟩:=h;exact ⟨ms,hw.trans h1,h2.mono hle⟩
 |pY s pos=>exact ⟨h.1,hw.trans h.2⟩
 |mapIter mp since seen last=>
  let ⟨h0,bm,sa,h1,h2,h3⟩:=h;refine ⟨h0,bm,sa,hw.trans h1,h2,?_⟩;cases mp with
  |none=>exact h3
  |some m=>let ⟨x,y,e1,e2⟩:=h3;exact ⟨x,y,e1,hle.O _ _ e2⟩
 |dfr=>exact hw.trans h
 |ro cs=>
  let ⟨cur,e,fz,h1,h0,h2⟩:=h;refine ⟨cur,e,fz,hw.trans h1,(congrFun hle.wb b).trans h0,λj x hx=> ?_⟩
  let ⟨v,a,b⟩:=h2 j x hx;exact ⟨v,a,λhu=>⟨(b hu).1,(b hu).2.mono hle⟩⟩
structure HR (g:Gh) (hp:Hf) (w:World):Prop where
 ob:∀id o,hp id=V o->∃b c,g.O id=V (b,c)/\b<w.heap.size/\OR g w id b c o
 inj:∀i j x y b c d,hp i=V x->hp j=V y->g.O i=V (b,c)->g.O j=V (b,d)->i=j
def arU (g:Gh) (hp:Hf) (b:Nat):Prop:=∃id o c,hp id=V o/\g.O id=V (b,c)
structure Fr (g:Gh) (hp:Hf) (w:World) (g':Gh) (Bt:Hf) (w':World):Prop where
 os:w'.os=w.os
 tape:w'.tape=w.tape
 output:w'.output=w.output
 size:w.heap.size<=w'.heap.size
 le:g.le g'
 old:∀b,b<w.heap.size->¬arU g hp b->w'.heap[b]? =w.heap[b]?
 own:∀b,b<w.heap.size->arU g' Bt b->arU g hp b
def Fr.refl (g:Gh) (hp:Hf) (w:World):Fr g hp w g hp w:=⟨rfl,rfl,rfl,de _,.refl _,λ_ _ _=>rfl,λ_ _ h=>h⟩
def Fr.trans {g g1 g2:Gh} {h h1 h2:Hf} {w w1 w2:World} (a:Fr g h w g1 h1 w1) (b:Fr g1 h1 w1 g2 h2 w2):Fr g h w g2 h2 w2:=
 ⟨b.os.trans a.os,b.tape.trans a.tape,b.output.trans a.output,kY a.size b.size,a.le.trans b.le,
  λk hk hn=>(b.old k (A6 hk a.size) (λhm=>hn (a.own k hk hm))).trans (a.old k hk hn),
  λk hk hm=>a.own k hk (b.own k (A6 hk a.size) hm)⟩
end
def Ff {e:SI} (h:Yi e=V n):e= .lit (.ofNat n):=by
 unfold Yi at h;split at h
 ·simp at h;subst h;rfl
 ·simp at h
def wm {x:SV} (h:oP x=V n):∃k,x= .int k (.lit (.ofNat n)):=by
 cases x<;>first|(exact ⟨_,by rw[Ff h]⟩)|cases h
def AT {x:SV} {b:Bool} (h:ug x=V b):x= .bool b:=by cases x<;>cases h<;>rfl
def tF {x:SV} {p:O'×SI} (h:intOf x=V p):x= .int p.1 p.2:=by cases x<;>cases h<;>rfl
def qZ {x:SV} (h:strOf x=V s):x= .str s:=by cases x<;>cases h<;>rfl
def rh {x:SV} (h:xj x=V q):x= .ptr q.1 q.2:=by cases x<;>cases h<;>rfl
def CO {x:SV} {cs:bc} (h:OZ x=V cs):x= .agg cs:=by cases x<;>cases h<;>rfl
def aoD {x:SV} {cs:bc} (h:RW x=V cs):x= .dr cs:=by cases x<;>cases h<;>rfl
def Zw {x:SV} (h:aAg x=V i):x= .mp i:=by cases x<;>cases h<;>rfl
def auT {x:SV} {q:Nat×Nat×Nat×Cp} (h:azN x=V q):x= .sl q.1 q.2.1 q.2.2.1 q.2.2.2:=by cases x<;>cases h<;>rfl
def Fk {x:SV} (h:QN x=V n):(∃i o c,x= .sl i o n c)\/(x= .cq/\n=0)\/(x= .sle/\n=0):=by
 cases x<;>first|(cases h;exact .inl ⟨_,_,_,rfl⟩)|(cases h;exact .inr (.inl ⟨rfl,rfl⟩))|(cases h;exact .inr (.inr ⟨rfl,rfl⟩))|cases h
def aps {x y:SV} (h:aaC x=V y):y=x/\((∃i o,x= .ptr i o)\/∃f a c,x= .fn f a c):=by
 cases x<;>first|(cases h;exact ⟨rfl,.inl ⟨_,_,rfl⟩⟩)|(cases h;exact ⟨rfl,.inr ⟨_,_,_,rfl⟩⟩)|cases h
def uB {d:UD} (h:po d=V e):d= .slice e:=by cases d<;>cases h<;>rfl
def Lu {d:UD} {fs:List FL} (h:zy d=V fs):d= .struct fs:=by cases d<;>cases h<;>rfl
def LU {d:UD} {q:pJ×pJ} (h:Gv d=V q):d= .map q.1 q.2:=by cases d<;>cases h<;>rfl
def akL {d:UD} (h:HG d=M):d= .string:=by cases d<;>cases h<;>rfl
def afT {d:UD} (h:OF d=M):d= .bool:=by cases d<;>cases h<;>rfl
def rS {o:Z SO} {p:pJ×bc} (h:mh o=V p):o=V (.cells p.1 p.2):=by
 unfold mh at h;split at h
 ·simp at h;subst h;rfl
 ·simp at h
def Fi {o:Z SO} {p:ig×Nat} (h:kN o=V p):o=V (.map p.1 p.2):=by
 unfold kN at h;split at h
 ·simp at h;subst h;rfl
 ·simp at h
def apI {o:Z SO} (h:OE o=V p):o=V (.pY p.1 p.2):=by
 unfold OE at h;split at h
 ·simp at h;subst h;rfl
 ·simp at h
def ov {a b:O'} (h:ij a b=M):a=b:=by
 cases a<;>cases b<;>first|rfl|(simp[ij] at h)
def apH (a:O'):ij a a=M:=by cases a<;>rfl
def Dh (a b:Int):JD a b=iL (a=b):=by
 cases a<;>cases b<;>simp[JD,beq_eq]
 rename_i m n;exact ⟨λh=>by rw[h],λh=>V3 h⟩
def xC (a b:Int):CH a b=iL (a<b):=by
 cases a<;>cases b<;>simp only[CH,ble_eq,NQ]
 ·rename_i m n;simp only[GY];omega
 ·rename_i m n;simp only[eq_comm (a:=I),decide_eq_false_iff_not,GY];omega
 ·rename_i m n;simp only[eq_comm (a:=M),jA,GY];omega
 ·rename_i m n;omega
def Nb (P:J5) (t:pJ):UD->Prop
 | .bool=>P.underlying t=V .bool
 | .int k=>P.underlying t=V (.int k)
 | .string=>P.underlying t=V .string
 | .pointer=>∃e,P.underlying t=V (.pointer e)
 | .slice e=>P.underlying t=V (.slice e)
 | .array n e=>P.underlying t=V (.array n e)
 | .map k e=>P.underlying t=V (.map k e)
 | .struct fs=>∃a:Array Field,P.underlying t=V (.struct a)/\a.toList.map (λf=>FL.mk f.type f.offset (iL (f.name≠ "_")))=fs/\∀f∈a.toList,(P.info? f.type).isSome=M
 | .func=>∃a b c,P.underlying t=V (.func a b c)
 | .interface=>∃ms,P.underlying t=V (.interface ms)
 | .other=>False
def ahn (agg:Bool) (z:C') (cs:bc):Prop:=
 (∀g,hY g z.cells.toList cs)/\(agg=M->∃a,z= .agg a)/\(agg=I->z.oneCell'=M)
structure EC (P:J5) (t:pJ) (i:TI):Prop where
 desc:Nb P t i.desc
 info:∃f z,P.info? t=V f/\f.size=i.size/\f.bytes=i.bytes/\f.comparable=i.comparable/\f.zero=V z/\ahn (mT i.desc) z i.zero/\(mT i.desc=M->i.zero.length=i.size)
structure fJ (E:Env) (g:Gh):Prop where
 ty:∀t i,E.ty.get t=V i->EC E.P t i
 fn:∀f x,E.fn.get f=V x->E.P.funcs[f]? =V x
 lt:∀a b r,(a,b,r)∈E.lt->iL (a.ev g.η<b.ev g.η)=r
 eq:∀a b r,(a,b,r)∈E.eq->iL (a.ev g.η=b.ev g.η)=r
 mix:E.P.follows .mixedOrders=M
 sz:∀t,g.sz t=E.P.cellsOf t
def fJ.mono {E:Env} {g g':Gh} (h:fJ E g) (hle:g.le g'):fJ E g':=
 ⟨h.ty,h.fn,λa b r hm=>by rw[hle.η];exact h.lt a b r hm,λa b r hm=>by rw[hle.η];exact h.eq a b r hm,h.mix,λt=>by rw[hle.sz];exact h.sz t⟩
def fJ.size {E:Env} {g:Gh} (h:fJ E g) {i:TI} (hi:E.ty.get t=V i):g.sz t=i.size:=by
 let ⟨f,z,h1,h2,_⟩:=(h.ty t i hi).info;rw[h.sz,Program.cellsOf,h1];simpa using h2
def Ae {E:Env} {g:Gh} (hE:fJ E g) {a b:SI} {r:Bool} (h:Fj E a b=V r):iL (a.ev g.η<b.ev g.η)=r:=by
 unfold Fj at h;split at h
 ·simp at h;subst h;rw[xC];rfl
def Q9 {E:Env} {g:Gh} (hE:fJ E g) {a b:SI} {r:Bool} (h:eqI E a b=V r):iL (a.ev g.η=b.ev g.η)=r:=by
 unfold eqI at h;split at h
 ·simp at h;subst h;rw[Dh];rfl
def Tu:∀(a b:List UInt8),uf a b=iL (a=b)
 | [],[]=>by simp[uf]
 | [],_::_=>by simp[uf]
 |_::_,[]=>by simp[uf]
 |a::l,b::m=>by
  rw[uf,Tu l m,beq_eq,nJ];simp only[bG,jA,List.cons.injEq];rw[<-UInt8.toNat_inj]
def xY (a b:U):Gj a b=iL (a=b):=by
 unfold Gj;rw[Tu,NQ];constructor
 ·intro h;cases a with|mk a=>cases b with|mk b=>simp at h;simp[h]
 ·intro h;rw[h]
def DH {J:Type} {P:J5}:∀{s:Sem J} {a:J},oO P s=V a->∀w,s.run P w= .ok a w
 | .pure a,_,h,w=>by simp[oO] at h;subst h;rfl
 | .program k,a,h,w=>DH (s:=k P) h w
 | .load ..,_,h,_| .store ..,_,h,_| .new ..,_,h,_| .shape ..,_,h,_| .freeze ..,_,h,_| .frozen ..,_,h,_| .getObj ..,_,h,_| .setObj ..,_,h,_| .choose ..,_,h,_| .sys ..,_,h,_| .mark ..,_,h,_| .halt _,_,h,_=>by simp[oO] at h
mutual
def yU (g:Gh):∀(v:C'),VR g v (wy v)
 | .bool b=>.bool b
 | .int k n=>.int k _ rfl
 | .string s=>.str s
 | .pointer G=>.vy
 | .pointer (V _)=>.undef _
 | .slice G 0 0=>.cq
 | .slice G 0 (_+1)=>.undef _
 | .slice G (_+1) _=>.undef _
 | .slice (V _) _ _=>.undef _
 | .map G=>.pC
 | .map (V _)=>.undef _
 | .nilFunc=>.uJ
 | .agg ⟨cs⟩=>by
  unfold wy;rw[cE];split
  ·rename_i hc;refine .agg ?_;have hr:=GG g cs;refine hY.mk hr.length λj v x hv hx=> ?_
   let ⟨u,hu,hd⟩:=hr.get hx;have hv:cs[j]? =V v:=hv;rw[hv] at hu;obtain rfl:v=u:=by simpa using hu
   exact ⟨jJ.1 hc v (bQ hv),hd⟩
  ·exact .undef _
 | .tuple ⟨cs⟩=>.dr (GG g cs)
 | .float _ _| .complex _ _ _| .chan _| .func _ _ _| .iface _ _| .nilIface=>.undef _
def GG (g:Gh):∀(vs:fG),mZ g vs (tL vs)
 | []=>.nil
 |v::vs=>.cons (yU g v) (GG g vs)
end
section
variable {E:Env} {g:Gh} {w:World}
variable {P:J5}
def CA {i:TI} (h:EC P t i) (w:World):(isAgg t).run P w= .ok (mT i.desc) w:=by
 have hd:=h.desc;generalize i.desc=d at hd;cases d<;>simp only[Nb] at hd
 case pointer=>let ⟨e,he⟩:=hd;simp only[isAgg,D',run_underlying he,E'];rfl
 case struct=>let ⟨e,he,_⟩:=hd;simp only[isAgg,D',run_underlying he,E'];rfl
 case func=>let ⟨_,_,_,he⟩:=hd;simp only[isAgg,D',run_underlying he,E'];rfl
 case interface=>let ⟨e,he⟩:=hd;simp only[isAgg,D',run_underlying he,E'];rfl
 all_goals (simp only[isAgg,D',run_underlying hd,E'];rfl)
def oZ {i:TI} (h:EC P t i) (w:World):(sizeOf t).run P w= .ok i.size w:=by
 let ⟨f,z,h1,h2,_⟩:=h.info;simp[sizeOf,typeInfo,h1,h2]
def aeN {i:TI} (h:EC P t i):∃z,(∀w,(zeroValue t).run P w= .ok z w)/\ahn (mT i.desc) z i.zero/\(mT i.desc=M->i.zero.length=i.size):=by
 let ⟨f,z,h1,_,_,_,h5,h6⟩:=h.info;exact ⟨z,λw=>by simp[zeroValue,typeInfo,h1,h5],h6⟩
def CB {i:TI} (hi:EC P t i) {cs:bc} {x:SV} {vs:jw} (h:je i cs off=V x) (hc:hY g vs.toList cs) (w:World):
  ∃v,(part t vs off).run P w= .ok v w/\VR g v x:=by
 unfold je at h;rw[cE] at h;split at h
 ·rename_i ha;let ⟨hl,h⟩:=ba h;simp at h;subst h;refine ⟨.agg (vs.extract off (off+i.size)),?_,.agg ?_⟩
  ·simp only[part,D',CA hi,E',ha,aw,oZ hi,I']
  ·have:(vs.extract off (off+i.size)).toList=(vs.toList.drop off).take i.size:=by simp[List.extract_eq_take_drop]
   rw[this];exact (hc.drop off).take _
 ·rename_i ha;let ⟨v,hv,_,hd⟩:=hc.get h;refine ⟨v,?_,hd⟩;have wY:vs[off]? =V v:=by simpa using hv
  have ha:mT i.desc=I:=by simpa using ha
  simp only[part,D',CA hi,E',ha,ax,au,wY,I']
def apn {i:TI} (hz:ahn (mT i.desc) z i.zero) (hl:mT i.desc=M->i.zero.length=i.size) {x:SV} (h:je i i.zero 0=V x):VR g z x:=by
 unfold je at h;rw[cE] at h;let ⟨h1,h2,h3⟩:=hz;split at h
 ·rename_i ha;let ⟨_,h⟩:=ba h;simp at h;subst h;obtain ⟨a,rfl⟩:=h2 ha;rw[<-hl ha,uo];exact .agg (h1 g)
 ·rename_i ha;have ho:=h3 (by simpa using ha)
  let ⟨v,hv,_,hd⟩:=(h1 g).get h;have:z.cells= #[z]:=by cases z<;>first|rfl|(simp[Value.oneCell'] at ho)
  rw[this] at hv;simp at hv;subst hv;exact hd
def VR.jD {x:SV} {cs:bc} (h:VR g v x) (hx:x.cells=V cs):hY g v.cells.toList cs:=by
 cases h with
 |agg h=>cases hx;exact h
 |dr h=>cases hx
 |undef v=>cases hx
 |bool b=>cases hx;exact .cons rfl (.bool b) .nil
 |int k e h=>cases hx;exact .cons rfl (.int k e h) .nil
 |str s=>cases hx;exact .cons rfl (.str s) .nil
 |ptr h=>cases hx;exact .cons rfl (.ptr h) .nil
 |vy=>cases hx;exact .cons rfl .vy .nil
 |sl a b c d=>cases hx;exact .cons rfl (.sl a b c d) .nil
 |sle=>cases hx;exact .cons rfl .sle .nil
 |cq=>cases hx;exact .cons rfl .cq .nil
 |mp h=>cases hx;exact .cons rfl (.mp h) .nil
 |pC=>cases hx;exact .cons rfl .pC .nil
 |fn a b=>cases hx;exact .cons rfl (.fn a b) .nil
 |uJ=>cases hx;exact .cons rfl .uJ .nil
def s9 {tm:Tf} (h:FR g nt tm a.tmps) {v:SV} (hv:dB tm x=V v):VR g (a.eval x) v:=by
 cases x with
 |tmp t=>exact h.tm t v hv
 |const u=>cases hv;exact yU g u
 |global _=>cases hv
 |func f=>cases hv;exact .fn .nil .nil
def Ba {nt:Nat} {tm:Tf} {a:Act} (h:FR g nt tm a.tmps):∀{xs:List Ew} {vs:bc},gA tm xs=V vs->mZ g (xs.map a.eval) vs
 | [],_,hv=>by cases hv;exact .nil
 |x::xs,vs,hv=>by
  let ⟨v,l,h1,h2,h3⟩:=bU hv;cases h3;exact .cons (s9 h h1) (Ba h h2)
def ahi {r k:Z Bool} {b:Bool} (h:andThen r k=V b):(r=V M/\k=V b)\/(r=V I/\b=I):=by
 cases r with
 |none=>simp[andThen] at h
 |some c=>cases c<;>simp[andThen] at h<;>simp[h]
def ZD {E:Env} (hE:fJ E g) {eq:pJ->SV->SV->Z Bool} {m:Nat} (heq:∀(t:pJ) (x y:SV) (b:Bool),eq t x y=V b->∀(u v:C'),VR g u x->VR g v y->∀w,(ab5 m t u v).run E.P w= .ok b w)
  {us vs:jw} {xs ys:bc} (hx:hY g us.toList xs) (hy:hY g vs.toList ys):∀(l:List Field) (b:Bool),JZ E eq xs ys (l.map λf=>FL.mk f.type f.offset (iL (f.name≠ "_")))=V b->∀w,(Op.eqFields m us vs l).run E.P w= .ok b w
 | [],b,h,w=>by cases h;simp[Op.eqFields]
 |f::l,b,h,w=>by
  simp only[jX,JZ] at h;let ⟨hn,h⟩:=ba h;let ⟨i,hi,h⟩:=aq h;let ⟨x,y,hpx,hpy,h⟩:=bU h;have aEB:f.name≠ "_" :=by simpa using hn
  let ⟨v1,hr1,Ef⟩:=CB (hE.ty _ _ hi) hpx hx w;let ⟨v2,hr2,Mn⟩:=CB (hE.ty _ _ hi) hpy hy w;rcases ahi h with ⟨h1,h2⟩|⟨h1,rfl⟩
  ·have he:=heq _ _ _ _ h1 v1 v2 Ef Mn w;simp only[Op.eqFields,aG aEB,D',hr1,hr2,he,E',ab6,I'];simpa using ZD hE heq hx hy l b h2 w
  ·have he:=heq _ _ _ _ h1 v1 v2 Ef Mn w;simp only[Op.eqFields,aG aEB,D',hr1,hr2,he,E',ab6,I'];simp
def agL {E:Env} (hE:fJ E g):∀(n:Nat) (t:pJ) (x y:SV) (b:Bool),eqT E n t x y=V b->∀(u v:C'),VR g u x->VR g v y->∀(d:Nat) (w:World),(ab5 (n+d) t u v).run E.P w= .ok b w
 |0,_,_,_,_,h=>by cases h
 |n+1,t,x,y,b,h=>by
  intro u v hu hv d w;have Fs:n+1+d=(n+d)+1:=by omega
  rw[Fs];let ⟨i,hi,h⟩:=aq (show az (E.ty.get t) (λi=>eqD i.desc E (eqT E n) t x y)=V b from h)
  have hT:=hE.ty t i hi;have hd:=hT.desc;generalize i.desc=D at hd h;cases D with
  |bool=>
   let ⟨p,q,h1,h2,h3⟩:=bU (show cC (ug x) (ug y) _=V b from h);obtain rfl:=AT h1;obtain rfl:=AT h2;cases hu;cases hv;cases h3;exact run_equalIn_bool' w _ t _ _ hd
  |int k=>
   let ⟨p,q,h1,h2,h3⟩:=bU (show cC (intOf x) (intOf y) _=V b from h);let ⟨hk,h3⟩:=ba h3;obtain rfl:=tF h1;obtain rfl:=tF h2;have hk:=ov hk;have hb:=Q9 hE h3;cases hu with|int _ _ e1=>cases hv with|int _ _ e2=>
   rw[hk,run_equalIn_int w _ t _ _ _ _ hd,e1,e2,<-hb];congr 1
  |string=>
   let ⟨p,q,h1,h2,h3⟩:=bU (show cC (strOf x) (strOf y) _=V b from h);obtain rfl:=qZ h1;obtain rfl:=qZ h2;cases hu;cases hv;cases h3;rw[run_equalIn_string w _ t _ _ hd,xY];congr 1;rw[ac4,ac4,nJ];simp only[sq,jA];constructor
   ·intro h;cases p with|mk a=>cases q with|mk c=>simp at h;simp[h]
   ·intro h;rw[h]
  |pointer=>
   let ⟨e,hd⟩:=hd;have h:aqD x y=V b:=h;unfold aqD at h;split at h<;>first|(cases hu;cases hv;cases h;simp[ab5,run_underlying hd];done)|(simp at h)
  |slice e=>
   have h:aBv x y=V b:=h;unfold aBv at h;split at h<;>first|(cases hu;cases hv;cases h;simp[ab5,run_underlying hd];done)|(simp at h)
  |array _ _=>cases h
  |map _ _=>
   have h:aqE x y=V b:=h;unfold aqE at h;split at h<;>first|(cases hu;cases hv;cases h;simp[ab5,run_underlying hd];done)|(simp at h)
  |struct fs=>
   let ⟨a,hd,hfs,_⟩:=hd;let ⟨p,h1,h2⟩:=aq (show az (ays x y) _=V b from h);let ⟨xs,ys,h3,h4,h5⟩:=bU h1;cases h5;obtain rfl:=CO h3;obtain rfl:=CO h4;rw[cE] at h2;split at h2
   ·simp at h2
   ·rename_i hp;have hp:E.P.stoodInHeld t=I:=by simpa using hp
    cases hu with|agg hx=>cases hv with|agg hy=>
    have hf:E.P.fieldsOf t=a:=by simp[Program.fieldsOf,hd]
    rw[run_equalIn_struct w _ t _ _ (by rw[hf];exact hd) hp,hf]
    subst hfs;exact ZD hE (λt x y b h u v hu hv w=>agL hE n t x y b h u v hu hv d w) hx hy a.toList b h2 w
  |func=>
   let ⟨_,_,_,hd⟩:=hd;have h:aBy x y=V b:=h;unfold aBy at h;split at h<;>first|(cases hu;cases hv;cases h;simp[ab5,run_underlying hd];done)|(simp at h)
  |interface=>cases (show G=V b from h)
  |other=>exact hd.elim
end
section
variable {E:Env} {g:Gh} {w:World}
variable {P:J5} {y oy:Ew} {dst:pJ}
def aIx (η:Nat->Int) (k:O') (a b:SI):(ahm k a b).ev η=k.wrap (a.ev η+b.ev η):=by
 unfold ahm;split<;>rfl
def alb (η:Nat->Int) (k:O') (a b:SI):(Qq k a b).ev η=k.wrap (a.ev η - b.ev η):=by
 unfold Qq;split<;>rfl
def aBM (η:Nat->Int) (k:O') (a:SI):(aaW k a).ev η=k.wrap (a.ev η):=by
 unfold aaW;split<;>rfl
def GD {op:X'} {a b:C'} (h:P.eqGuardType P.depth t=I\/(∀cs,a≠ .agg cs)) (h2:a≠ .nilIface\/(isConst x||isConst y)=M) (w:World):(eqGuard op t x y a b).run P w= .ok () w:=by
 cases a<;>first
  |(cases op<;>rfl)
  |(
   rcases h2 with h2|h2
   ·exact absurd rfl h2
   ·cases b<;>first
     |(cases op<;>rfl)
     |(cases op<;>first|rfl|(cases x<;>cases y<;>first|rfl|(simp[isConst] at h2)))
   )
  |(
   rcases h with h|h
   ·cases b<;>first|(cases op<;>rfl)|exact run_eqGuard_agg w op t x y _ _ h
   ·exact absurd rfl (h _))
def rG {r:Z Bool} {z:SV} (h:lW neg r=V z):∃b,r=V b/\z= .bool (if neg then !b else b):=by
 let ⟨b,h1,h2⟩:=aq h;cases h2;exact ⟨b,h1,by cases neg<;>rfl⟩
def Su {r:Z C'} {z:SV} (h:Jr r=V z):∃v,r=V v/\z=wy v:=by
 let ⟨v,h1,h2⟩:=aq h;cases h2;exact ⟨v,h1,rfl⟩
def axH (E:Env) (eq:pJ->SV->SV->Z Bool) (t:pJ) (d:UD) (y:SV):eqD d E eq t .undef y=G:=by
 cases d<;>rfl
def axG (E:Env) (n:Nat) (t:pJ) (y:SV):eqT E n t .undef y=G:=by
 cases n with
 |zero=>rfl
 |succ n=>
  show az (E.ty.get t) (λi=>eqD i.desc E (eqT E n) t .undef y)=G
  cases E.ty.get t with
  |none=>rfl
  |some i=>exact axH _ _ _ _ _
def apA {op:X'} {k k':O'} {a b:SI} {z:SV} (h:aaF E op t k k' a b=V z):∃m n v,a= .lit m/\b= .lit n/\oO E.P (binOp op t (.int k m) (.int k' n))=V v/\z=wy v:=by
 unfold aaF at h;split at h
 ·rename_i m n;let ⟨v,h1,h2⟩:=Su h;exact ⟨m,n,v,rfl,rfl,h1,h2⟩
def axv (x y:Int):(x==y)=iL (x=y):=by rw[nJ];simp
def decLe (x y:Int):iL (x<=y)= !iL (y<x):=by rw[nJ];simp
def VR.FN {b c:Bool} (h:b=c):VR g (.bool b) (.bool c):=by subst h;exact .bool b
def apM (hE:fJ E g) {op:X'} {k k':O'} {a b:SI} {z:SV} (h:apN op E op t k k' a b=V z) (w:World):
  ∃r,(binOp op t (.int k (a.ev g.η)) (.int k' (b.ev g.η))).run E.P w= .ok r w/\VR g r z:=by
 have lit:aaF E op t k k' a b=V z->∃r,(binOp op t (.int k (a.ev g.η)) (.int k' (b.ev g.η))).run E.P w= .ok r w/\VR g r z:=by
  intro h;obtain ⟨m,n,v,rfl,rfl,h1,rfl⟩:=apA h;exact ⟨v,DH h1 w,yU g v⟩
 cases op with
 |add=>
  let ⟨hk,h⟩:=ba (show aT (ij k k') (V (SV.int k (ahm k a b))) G=V z from h);cases h;obtain rfl:=ov hk;exact ⟨_,by simp[binOp,Op.intArith]<;>rfl,.int _ _ (aIx _ _ _ _).symm⟩
 |sub=>
  let ⟨hk,h⟩:=ba (show aT (ij k k') (V (SV.int k (Qq k a b))) G=V z from h);cases h;obtain rfl:=ov hk;exact ⟨_,by simp[binOp,Op.intArith]<;>rfl,.int _ _ (alb _ _ _ _).symm⟩
 |eql=>
  let ⟨hk,h⟩:=ba (show aT (ij k k') (lW I (eqI E a b)) G=V z from h);obtain ⟨c,h1,rfl⟩:=rG h;obtain rfl:=ov hk;exact ⟨_,by simp[binOp,Op.intCmp]<;>rfl,VR.FN (by have:=Q9 hE h1;rw[axv,this];rfl)⟩
 |neq=>
  let ⟨hk,h⟩:=ba (show aT (ij k k') (lW M (eqI E a b)) G=V z from h);obtain ⟨c,h1,rfl⟩:=rG h;obtain rfl:=ov hk;exact ⟨_,by simp[binOp,Op.intCmp]<;>rfl,VR.FN (by have:=Q9 hE h1;rw[<-this,<-axv];rfl)⟩
 |lss=>
  let ⟨hk,h⟩:=ba (show aT (ij k k') (lW I (Fj E a b)) G=V z from h);obtain ⟨c,h1,rfl⟩:=rG h;obtain rfl:=ov hk;exact ⟨_,by simp[binOp,Op.intCmp]<;>rfl,VR.FN (by have:=Ae hE h1;simpa using this)⟩
 |gtr=>
  let ⟨hk,h⟩:=ba (show aT (ij k k') (lW I (Fj E b a)) G=V z from h);obtain ⟨c,h1,rfl⟩:=rG h;obtain rfl:=ov hk;exact ⟨_,by simp[binOp,Op.intCmp]<;>rfl,VR.FN (by have:=Ae hE h1;simpa using this)⟩
 |leq=>
  let ⟨hk,h⟩:=ba (show aT (ij k k') (lW M (Fj E b a)) G=V z from h);obtain ⟨c,h1,rfl⟩:=rG h;obtain rfl:=ov hk;exact ⟨_,by simp[binOp,Op.intCmp]<;>rfl,VR.FN (by have:=Ae hE h1;rw[<-this];first|exact decLe _ _|(rw[<-decLe];rfl))⟩
 |geq=>
  let ⟨hk,h⟩:=ba (show aT (ij k k') (lW M (Fj E a b)) G=V z from h);obtain ⟨c,h1,rfl⟩:=rG h;obtain rfl:=ov hk;exact ⟨_,by simp[binOp,Op.intCmp]<;>rfl,VR.FN (by have:=Ae hE h1;rw[<-this];first|exact decLe _ _|(rw[<-decLe];rfl))⟩
 |_=>exact lit h
def aoK {op:X'} {a b:U} {z:SV} (h:aoL op E op t a b=V z) (w:World):
  ∃r,(binOp op t (.string a) (.string b)).run E.P w= .ok r w/\VR g r z:=by
 have lit:Jr (oO E.P (binOp op t (.string a) (.string b)))=V z->∃r,(binOp op t (.string a) (.string b)).run E.P w= .ok r w/\VR g r z:=by
  intro h;obtain ⟨v,h1,rfl⟩:=Su h;exact ⟨v,DH h1 w,yU g v⟩
 have hb:(a.toList==b.toList)=iL (a=b):=by
  rw[ac4,ac4,nJ];simp only[sq,jA];constructor
  ·intro h;cases a with|mk a=>cases b with|mk c=>simp at h;simp[h]
  ·intro h;rw[h]
 cases op with
 |eql=>cases h;exact ⟨_,by simp[binOp,Op.stringOp]<;>rfl,VR.FN (by rw[xY];simpa using hb)⟩
 |neq=>cases h;exact ⟨.bool (!(a.toList==b.toList)),by simp[binOp,Op.stringOp,bne],VR.FN (by rw[xY,hb])⟩
 |_=>exact lit h
def aao {a b:C'} (h1:∀k n,a≠ .int k n) (h2:∀k n,a≠ .float k n) (h3:∀k n m,a≠ .complex k n m) (h4:∀s,a≠ .string s) (w:World):
  (binOp .eql t a b).run P w=((ab5 10000 t a b).run P w).andThen λr w'=>.ok (.bool r) w':=by
 cases a<;>first|exact absurd rfl (h1 _ _)|exact absurd rfl (h2 _ _)|exact absurd rfl (h3 _ _ _)|exact absurd rfl (h4 _)|(simp only[binOp];simp[Op.equal,Op.maxDepth])
def aan {a b:C'} (h1:∀k n,a≠ .int k n) (h2:∀k n,a≠ .float k n) (h3:∀k n m,a≠ .complex k n m) (h4:∀s,a≠ .string s) (w:World):
  (binOp .neq t a b).run P w=((ab5 10000 t a b).run P w).andThen λr w'=>.ok (.bool (!r)) w':=by
 cases a<;>first|exact absurd rfl (h1 _ _)|exact absurd rfl (h2 _ _)|exact absurd rfl (h3 _ _ _)|exact absurd rfl (h4 _)|(simp only[binOp];simp[Op.equal,Op.maxDepth])
def afo (hE:fJ E g) {op:X'} {x y z:SV} (hx:∀k e,x≠ .int k e) (hs:∀s,x≠ .str s) (h:Yd op E t ox oy x y=V z) (hu:VR g u x) (hv:VR g v y) (w:World):
  ∃r,(do eqGuard op t ox oy u v;binOp op t u v:Sem C').run E.P w= .ok r w/\VR g r z:=by
 have key:∀b,JY E t ox oy x y=V b->(eqGuard op t ox oy u v).run E.P w= .ok () w/\(∀w,(binOp .eql t u v).run E.P w= .ok (.bool b) w)/\(∀w,(binOp .neq t u v).run E.P w= .ok (.bool (!b)) w):=by
  intro b he;let ⟨pN,he⟩:=ba he;have qK:=λw=>agL hE 20 t x y b he u v hu hv 9980 w
  simp only[show 20+9980=10000 from rfl] at qK;have hnu:x≠ .undef:=λe=>by rw[e,axG] at he;simp at he
  have aKa:(∀k n,u≠ .int k n)/\(∀k n,u≠ .float k n)/\(∀k n m,u≠ .complex k n m)/\(∀s,u≠ .string s)/\(E.P.eqGuardType E.P.depth t=I\/(∀cs,u≠ .agg cs))/\(u≠ .nilIface\/(isConst ox||isConst oy)=M):=by
   cases hu<;>first|exact absurd rfl (hx _ _)|exact absurd rfl (hs _)|exact absurd rfl hnu|(simp;done)|(simp[aBx] at pN;simp[pN])
  let ⟨f1,f2,f3,f4,f5,f6⟩:=aKa;refine ⟨GD f5 f6 w,λw=> ?_,λw=> ?_⟩
  ·rw[aao f1 f2 f3 f4,qK];rfl
  ·rw[aan f1 f2 f3 f4,qK];rfl
 cases op with
 |eql=>
  obtain ⟨b,h1,rfl⟩:=rG (show lW I (JY E t ox oy x y)=V z from h);let ⟨k1,k2,k3⟩:=key b h1;exact ⟨.bool b,by simp only[D',k1,E',k2],.bool b⟩
 |neq=>
  obtain ⟨b,h1,rfl⟩:=rG (show lW M (JY E t ox oy x y)=V z from h);let ⟨k1,k2,k3⟩:=key b h1;exact ⟨.bool (!b),by simp only[D',k1,E',k3],.bool (!b)⟩
 |_=>cases h
def ayb (hE:fJ E g) {op:X'} {x y z:SV} (h:Ri E op t ox oy x y=V z) (hu:VR g u x) (hv:VR g v y) (w:World):
  ∃r,(do eqGuard op t ox oy u v;binOp op t u v:Sem C').run E.P w= .ok r w/\VR g r z:=by
 by_cases hx:∃k e,x= .int k e
 ·obtain ⟨k,a,rfl⟩:=hx;let ⟨p,h1,h2⟩:=aq (show az (intOf y) (λp=>apN op E op t k p.1 a p.2)=V z from h)
  obtain rfl:=tF h1;cases hu with|int _ _ e1=>cases hv with|int _ _ e2=>
  subst e1;subst e2;let ⟨r,q1,q2⟩:=apM hE h2 w;exact ⟨r,by rw[D',GD (P:=E.P) (a:=.int k (a.ev g.η)) (.inr (by simp)) (.inl (by simp))];exact q1,q2⟩
 ·by_cases hs:∃s,x= .str s
  ·obtain ⟨s,rfl⟩:=hs;let ⟨b,h1,h2⟩:=aq (show az (strOf y) (λb=>aoL op E op t s b)=V z from h)
   obtain rfl:=qZ h1;cases hu;cases hv;let ⟨r,q1,q2⟩:=aoK (g:=g) h2 w;exact ⟨r,by rw[D',GD (P:=E.P) (a:=.string s) (.inr (by simp)) (.inl (by simp))];exact q1,q2⟩
  ·have sP:∀k e,x≠ .int k e:=λk e q=>hx ⟨k,e,q⟩
   have D7:∀s,x≠ .str s:=λs q=>hs ⟨s,q⟩
   refine afo hE sP D7 ?_ hu hv w;cases x<;>first|exact absurd rfl (sP _ _)|exact absurd rfl (D7 _)|exact h
def aIX {i:TI} (h:EC P t i):∃d,P.underlying t=V d:=by
 have hd:=h.desc;generalize i.desc=d at hd;cases d<;>simp only[Nb] at hd<;>first|exact ⟨_,hd⟩|exact ⟨_,hd.choose_spec⟩|exact ⟨_,hd.choose_spec.1⟩|exact ⟨_,hd.choose_spec.choose_spec.choose_spec⟩
def aqU (hE:fJ E g) {x z:SV} (h:To E src dst x=V z) (hu:VR g u x) (w:World):∃r,(convert src dst u).run E.P w= .ok r w/\VR g r z:=by
 let ⟨i,j,hi,hj,h⟩:=bU h;let ⟨d1,Ef⟩:=aIX (hE.ty _ _ hi);have hd:=(hE.ty _ _ hj).desc;generalize j.desc=D at hd h;cases D with
 |int k=>
  let ⟨p,h1,h2⟩:=aq (show az (intOf x) (λp=>V (SV.int k (aaW k p.2)))=V z from h)
  cases h2;obtain rfl:=tF h1;cases hu with|int _ _ e1=>
  subst e1;exact ⟨_,by simp[convert,run_underlying Ef,run_underlying hd,Conv.intToInt]<;>rfl,.int _ _ (aBM _ _ _).symm⟩
 |string=>
  have h:aoM x=V z:=h;unfold aoM at h;split at h
  ·cases h;cases hu;exact ⟨_,by simp[convert,run_underlying Ef,run_underlying hd]<;>rfl,.str _⟩
  ·unfold aCL at h;split at h
   ·cases h;cases hu with|int _ _ e1=>
    subst e1;exact ⟨_,by simp[convert,run_underlying Ef,run_underlying hd,Conv.intToString]<;>rfl,.str _⟩
  ·cases h
 |_=>cases h
def azB {op:UnOp} {x z:SV} (h:unA op x=V z) (hu:VR g u x) (w:World):∃r,(Op.unary op u).run P w= .ok r w/\VR g r z:=by
 cases hu with
 |bool b=>
  let ⟨h1,h2⟩:=ba (show aT (S2 op) (V (SV.bool (!b))) G=V z from h);cases h2;cases op<;>first|(simp[S2] at h1;done)|exact ⟨_,rfl,.bool _⟩
 |int k e he=>
  let ⟨h1,h2⟩:=ba (show aT (isNeg op) (V (SV.int k (Qq k (.lit 0) e))) G=V z from h);cases h2;subst he;cases op<;>first|(simp[isNeg] at h1;done)|exact ⟨.int k (k.wrap (0-e.ev g.η)),by simp[Op.unary,Op.intArith],.int _ _ (by rw[alb];simp only[SI.ev])⟩
 |_=>cases h
end
section
variable {E:Env} {g:Gh} {f:Hf} {w:World}
variable {P:J5}
def jn (f:Hf) (u:Up):Hf:=λj=>if j=u.1 then u.2 else f j
def gY (f:Hf):gO->Hf
 | []=>f
 |u::us=>gY (jn f u) us
def Gh.bind (g:Gh) (id:Nat) (p:Nat×Nat) (l:Nat) (e:pJ):Gh:=⟨g.η,g.sz,λj=>if j=id then V p else g.O j,λj=>if j=id then l else g.lim j,λj=>if j=id then e else g.et j,g.wb⟩
def Gh.HF {id:Nat} {p:Nat×Nat} (h:g.O id=G):g.le (g.bind id p l e):=by
 have key:∀j q,g.O j=V q->j≠id:=λj q hq e=>by subst e;rw[h] at hq;simp at hq
 refine ⟨rfl,rfl,λj q hq=> ?_,λj q hq=> ?_,λj q hq=> ?_,rfl⟩
 ·show (if j=id then V p else g.O j)=V q
  rw[aC (key j q hq)];exact hq
 ·exact aC (key j q hq)
 ·exact aC (key j q hq)
def Gh.jZ (g:Gh) (id:Nat) (p:Nat×Nat) (l:Nat) (e:pJ):(g.bind id p l e).O id=V p:=by simp[Gh.bind]
def Gh.Aq (g:Gh) (id:Nat) (p:Nat×Nat) (l:Nat) (e:pJ):(g.bind id p l e).lim id=l:=by simp[Gh.bind]
def Gh.Dl (g:Gh) (id:Nat) (p:Nat×Nat) (l:Nat) (e:pJ):(g.bind id p l e).et id=e:=by simp[Gh.bind]
def Gh.mn (g:Gh) {id j:Nat} (p:Nat×Nat) (l:Nat) (e:pJ) (h:j≠id):(g.bind id p l e).O j=g.O j:=by simp[Gh.bind,h]
def HR.Hz (h:HR g f w) {id:Nat} (hn:g.O id=G):f id=G:=by
 cases hf:f id with
 |none=>rfl
 |some o=>
  let ⟨b,c,h1,_⟩:=h.ob id o hf;rw[hn] at h1;simp at h1
def HR.sub (h:HR g f w) {f':Hf} (hs:∀id o,f' id=V o->f id=V o):HR g f' w:=
 ⟨λid o ho=>h.ob id o (hs id o ho),λi j x y b c d hx hy h1 h2=>h.inj i j x y b c d (hs i x hx) (hs j y hy) h1 h2⟩
def HR.write (h:HR g f w) {id b:Nat} {o o':SO} (hf:f id=V o) (hρ:g.O id=V (b,c)) (oA:w'.heap.size=w.heap.size) (JM:∀k,k≠b->w'.heap[k]? =w.heap[k]?) (HL:OR g w' id b c o') (h1:w'.os=w.os) (h2:w'.tape=w.tape) (h3:w'.output=w.output):
  HR g (jn f (id,V o')) w'/\Fr g f w g (jn f (id,V o')) w':=by
 have hb:b<w.heap.size:=by
  let ⟨b',c',q1,q2,_⟩:=h.ob id o hf;rw[hρ] at q1;obtain ⟨rfl,rfl⟩:b=b'/\c=c':=by simpa using q1
  exact q2
 refine ⟨⟨λj x hx=> ?_,λi j x y b1 c1 d1 hx hy e1 e2=> ?_⟩,⟨h1,h2,h3,by omega,.refl _,λk hk hn=>JM k (λe=>hn ⟨id,o,c,hf,by rw[e];exact hρ⟩),λk hk hm=> ?_⟩⟩
 ·simp only[jn] at hx;split at hx
  ·rename_i e;subst e;cases hx;exact ⟨b,c,hρ,by omega,HL⟩
  ·rename_i e;let ⟨b1,c1,q1,q2,q3⟩:=h.ob j x hx;refine ⟨b1,c1,q1,by omega,q3.mono (.refl _) q1 (JM b1 (λe'=> ?_))⟩
   subst e';exact e (h.inj j id x o b1 c1 c hx hf q1 hρ)
 ·have key:∀k z,jn f (id,V o') k=V z->∃z',f k=V z':=by
   intro k z hz;simp only[jn] at hz;split at hz
   ·rename_i e;subst e;exact ⟨o,hf⟩
   ·exact ⟨z,hz⟩
  let ⟨x',sP⟩:=key i x hx;let ⟨y',hy'⟩:=key j y hy;exact h.inj i j x' y' b1 c1 d1 sP hy' e1 e2
 ·let ⟨j,x,d,hx,hd⟩:=hm;simp only[jn] at hx;split at hx
  ·rename_i e;subst e;exact ⟨_,o,d,hf,hd⟩
  ·exact ⟨j,x,d,hx,hd⟩
def HR.alloc (h:HR g f w) (hn:g.O new=G) {o':SO} (hw:w'=w.alloc ob) (HL:OR (g.bind new (w.heap.size,0) l e) w' new w.heap.size 0 o'):
  HR (g.bind new (w.heap.size,0) l e) (jn f (new,V o')) w'/\Fr g f w (g.bind new (w.heap.size,0) l e) (jn f (new,V o')) w':=by
 subst hw;have Mm:=h.Hz hn;have hle:=Gh.HF (p:=(w.heap.size,0)) (l:=l) (e:=e) hn;have oA:(w.alloc ob).heap.size=w.heap.size+1:=by simp
 refine ⟨⟨λj x hx=> ?_,λi j x y b1 c1 d1 hx hy e1 e2=> ?_⟩,⟨rfl,rfl,rfl,by omega,hle,λk hk _=>heap_alloc_old w ob hk,λk hk hm=> ?_⟩⟩
 ·simp only[jn] at hx;split at hx
  ·rename_i e;subst e;cases hx;exact ⟨w.heap.size,0,Gh.jZ _ _ _ _ _,by omega,HL⟩
  ·rename_i e;let ⟨b1,c1,q1,q2,q3⟩:=h.ob j x hx;exact ⟨b1,c1,(Gh.mn g _ _ _ e).trans q1,by omega,q3.mono hle q1 (heap_alloc_old w ob q2)⟩
 ·simp only[jn] at hx hy;split at hx
  ·rename_i ei;subst ei;split at hy
   ·rename_i ej;exact ej.symm
   ·rename_i ej;rw[Gh.jZ] at e1;rw[Gh.mn g _ _ _ ej] at e2;let ⟨b2,c2,q1,q2,_⟩:=h.ob j y hy;rw[e2] at q1;simp at e1 q1;omega
  ·rename_i ei;rw[Gh.mn g _ _ _ ei] at e1;split at hy
   ·rename_i ej;subst ej;rw[Gh.jZ] at e2;let ⟨b2,c2,q1,q2,_⟩:=h.ob i x hx;rw[e1] at q1;simp at e2 q1;omega
   ·rename_i ej;rw[Gh.mn g _ _ _ ej] at e2;exact h.inj i j x y b1 c1 d1 hx hy e1 e2
 ·let ⟨j,x,d,hx,hd⟩:=hm;simp only[jn] at hx;split at hx
  ·rename_i e;subst e;rw[Gh.jZ] at hd;simp at hd;omega
  ·rename_i e;rw[Gh.mn g _ _ _ e] at hd;exact ⟨j,x,d,hx,hd⟩
def HR.kill (h:HR g f w) (id:Nat):HR g (jn f (id,G)) w/\Fr g f w g (jn f (id,G)) w:=by
 have key:∀k z,jn f (id,G) k=V z->f k=V z:=by
  intro k z hz;simp only[jn] at hz;split at hz
  ·simp at hz
  ·exact hz
 refine ⟨h.sub key,⟨rfl,rfl,rfl,de _,.refl _,λ_ _ _=>rfl,λk hk hm=> ?_⟩⟩
 let ⟨j,x,d,hx,hd⟩:=hm;exact ⟨j,x,d,key j x hx,hd⟩
def HR.rename (h:HR g f w) {id b c':Nat} {o o':SO} (hn:g.O new=G) (hf:f id=V o) (hρ:g.O id=V (b,c)) (oA:w'.heap.size=w.heap.size) (JM:∀k,k≠b->w'.heap[k]? =w.heap[k]?) (HL:OR (g.bind new (b,c') l e) w' new b c' o') (h1:w'.os=w.os) (h2:w'.tape=w.tape) (h3:w'.output=w.output):
  HR (g.bind new (b,c') l e) (jn (jn f (id,G)) (new,V o')) w'/\Fr g f w (g.bind new (b,c') l e) (jn (jn f (id,G)) (new,V o')) w':=by
 have hle:=Gh.HF (p:=(b,c')) (l:=l) (e:=e) hn;have Mm:=h.Hz hn;have hb:b<w.heap.size:=by
  let ⟨b',c',q1,q2,_⟩:=h.ob id o hf;rw[hρ] at q1;obtain ⟨rfl,rfl⟩:b=b'/\c=c':=by simpa using q1
  exact q2
 have key:∀j x,jn (jn f (id,G)) (new,V o') j=V x->(j=new/\x=o')\/(j≠new/\j≠id/\f j=V x):=by
  intro j x hx;simp only[jn] at hx;split at hx
  ·rename_i e;cases hx;exact .inl ⟨e,rfl⟩
  ·rename_i e;split at hx
   ·simp at hx
   ·rename_i e';exact .inr ⟨e,e',hx⟩
 have Bu:∀j x d,j≠id->f j=V x->g.O j=V (b,d)->False:=λj x d hj hx hd=>hj (h.inj j id x o b d c hx hf hd hρ)
 refine ⟨⟨λj x hx=> ?_,λi j x y b1 c1 d1 hx hy e1 e2=> ?_⟩,⟨h1,h2,h3,by omega,hle,λk hk hn=>JM k (λe=>hn ⟨id,o,c,hf,by rw[e];exact hρ⟩),λk hk hm=> ?_⟩⟩
 ·rcases key j x hx with ⟨rfl,rfl⟩|⟨q1,q2,q3⟩
  ·exact ⟨b,c',Gh.jZ _ _ _ _ _,by omega,HL⟩
  ·let ⟨b1,c1,r1,r2,r3⟩:=h.ob j x q3;exact ⟨b1,c1,(Gh.mn g _ _ _ q1).trans r1,by omega,r3.mono hle r1 (JM b1 (λe=>by subst e;exact Bu j x c1 q2 q3 r1))⟩
 ·rcases key i x hx with ⟨rfl,rfl⟩|⟨q1,q2,q3⟩<;>rcases key j y hy with ⟨rfl,rfl⟩|⟨r1,r2,r3⟩
  ·rfl
  ·rw[Gh.jZ] at e1;rw[Gh.mn g _ _ _ r1] at e2;obtain ⟨rfl,_⟩:b=b1/\c'=c1:=by simpa using e1
   exact (Bu j y d1 r2 r3 e2).elim
  ·rw[Gh.jZ] at e2;rw[Gh.mn g _ _ _ q1] at e1;obtain ⟨rfl,_⟩:b=b1/\c'=d1:=by simpa using e2
   exact (Bu i x c1 q2 q3 e1).elim
  ·rw[Gh.mn g _ _ _ q1] at e1;rw[Gh.mn g _ _ _ r1] at e2;exact h.inj i j x y b1 c1 d1 q3 r3 e1 e2
 ·let ⟨j,x,d,hx,hd⟩:=hm;rcases key j x hx with ⟨rfl,rfl⟩|⟨q1,q2,q3⟩
  ·rw[Gh.jZ] at hd;obtain ⟨rfl,_⟩:b=k/\c'=d:=by simpa using hd
   exact ⟨id,o,c,hf,hρ⟩
  ·rw[Gh.mn g _ _ _ q1] at hd;exact ⟨j,x,d,q3,hd⟩
def vM {b:Nat} {cur:jw} (h:w.heap[b]? =V (.cells cur e fz)):w.cell? ⟨b,o,G⟩=cur[o]? :=by simp[World.cell?,h]
def add_lit (b o j:Nat):(⟨b,o,G⟩:Addr).add j=⟨b,o+j,G⟩:=by unfold Addr.add;split<;>simp_all
def Cells.gA {id b:Nat} {cs:bc} (h:Cells g w id b o e cs) (off n:Nat) (hl:off+n<=cs.length):
  ∃vs:fG,vs.length=n/\hY g vs ((cs.drop off).take n)/\∀j v,vs[j]? =V v->w.cell? ⟨b,o+off+j,G⟩=V v:=by
 let ⟨⟨cur,h1,h0,vs,h2,h3⟩,h4⟩:=h;refine ⟨(vs.drop off).take n,?_,(h2.drop off).take n,λj v hv=> ?_⟩
 ·have:=h2.length;simp;omega
 ·rw[vM h1];rw[eZ] at hv;split at hv
  ·rw[fp] at hv;rw[gD];exact h3 _ _ hv
  ·simp at hv
def J3:∀{cs:bc},xc cs=M->∀{j:Nat} {x:SV},cs[j]? =V x->KZ x=I
 | [],_,j,x,h=>by simp at h
 |y::cs,hd,j,x,h=>by
  have hd:aT (KZ y) I (xc cs)=M:=hd;rw[cE] at hd;split at hd
  ·cases hd
  ·rename_i hu;cases j with
   |zero=>
    have e:y=x:=by simpa using h
    rw[<-e];simpa using hu
   |succ j=>exact J3 hd (by simpa using h)
def OR.gA {id b:Nat} {x:SO} {p:pJ×bc} (h:OR g w id b o x) (hx:jD (V x) off n=V p) (hl:off+n<=p.2.length):
  ∃vs:fG,vs.length=n/\hY g vs ((p.2.drop off).take n)/\∀j v,vs[j]? =V v->w.cell? ⟨b,o+off+j,G⟩=V v:=by
 cases x with
 |cells e cs=>cases hx;exact Cells.gA h off n hl
 |ro cs=>
  let ⟨hd,hx⟩:=ba (show aT (xc ((cs.drop off).take n)) (V (0,cs)) G=V p from hx);cases hx;let ⟨cur,e,fz,h1,_,h2⟩:=h;have oA:n=0\/o+off+n<=cur.size:=by
   by_cases hn:n=0
   ·exact .inl hn
   ·right;have hl:off+n<=cs.length:=hl;have dq:off+n-1<cs.length:=by omega
    let ⟨v,a,_⟩:=h2 (off+n-1) cs[off+n-1] (by simp[dq])
    have:=(oj.1 a).1;omega
  have hlen:((cur.toList.drop (o+off)).take n).length=n:=by
   rcases oA with h|h
   ·subst h;simp
   ·simp;omega
  have nU:∀j v,((cur.toList.drop (o+off)).take n)[j]? =V v->j<n/\cur[o+off+j]? =V v:=λj v hv=>by
   rw[eZ] at hv;split at hv
   ·rw[fp] at hv;exact ⟨by assumption,by simpa using hv⟩
   ·cases hv
  refine ⟨(cur.toList.drop (o+off)).take n,hlen,hY.mk (by rw[hlen,dz,jx];have hl:off+n<=cs.length:=hl;show n=min n (cs.length-off);omega) (λj v y hv hy=> ?_),λj v hv=> ?_⟩
  ·have hu:=J3 hd hy;let ⟨hj,hv⟩:=nU j v hv;have hy:((cs.drop off).take n)[j]? =V y:=hy;rw[eZ,aG hj,fp] at hy;let ⟨v',a,b⟩:=h2 (off+j) y hy;have e:v'=v:=by
    rw[show o+(off+j)=o+off+j by omega,hv] at a
    simpa using a.symm
   rw[<-e];exact b hu
  ·let ⟨_,hv⟩:=nU j v hv;rw[vM h1];exact hv
 |_=>cases hx
def Cy {cs xs:List J} (h:off+xs.length<=cs.length) (j:Nat):
  (cs.take off++xs++cs.drop (off+xs.length))[j]? =if off<=j/\j<off+xs.length then xs[j-off]? else cs[j]? :=by
 by_cases h1:j<off
 ·rw[aC (by omega),j8,pd (by simp;omega),eZ]
  simp[h1]
 ·by_cases h2:j<off+xs.length
  ·rw[aG ⟨by omega,h2⟩,pd (by simp;omega),nF (by simp;omega)]
   congr 1;simp[fo (by omega:off<=cs.length)]
  ·rw[nF (by simp;omega),fp,aC (by omega)]
   congr 1;simp[fo (by omega:off<=cs.length)]
   omega
def Ly (cs:bc) (off:Nat) (xs:bc):eB cs off xs=cs.take off++xs++cs.drop (off+xs.length):=rfl
def Cells.store {id b:Nat} {cs:bc} (h:Cells g w id b o e cs) {us:fG} {xs:bc} (hx:hY g us xs) (hl:off+xs.length<=cs.length):
  ∃w',(storeCells ⟨b,o+off,G⟩ us 0).run P w= .ok () w'/\Cells g w' id b o e (eB cs off xs)/\w'.heap.size=w.heap.size/\(∀k,k≠b->w'.heap[k]? =w.heap[k]?)/\w'.os=w.os/\w'.tape=w.tape/\w'.output=w.output:=by
 have hul:=hx.length;by_cases hu0:us= []
 ·subst hu0;have Me:xs= []:=v8 (by simpa using hul.symm)
  subst Me;refine ⟨w,rfl,?_,rfl,λ_ _=>rfl,rfl,rfl,rfl⟩
  have:eB cs off []=cs:=by rw[Ly];simp
  rw[this];exact h
 let ⟨⟨cur,h1,h0,vs,h2,h3⟩,h4⟩:=h;have hvl:=h2.length;have Ai:0<us.length:=by cases us with|nil=>exact absurd rfl hu0|cons _ _=>simp
 have oA:o+off+us.length<=cur.size:=by
  have dq:off+us.length-1<vs.length:=by omega
  have:=h3 (off+us.length-1) vs[off+us.length-1] (by simp[dq])
  have:=(oj.1 this).1;omega
 have qK:=run_storeCells_at P b (o+off) e us 0 cur w h1 (by omega) hx.one
 simp only[nH] at qK;refine ⟨_,qK,⟨⟨_,setRow_heap w b cur _ e _ h1,?_,vs.take off++us++vs.drop (off+us.length),?_,?_⟩,h4⟩,by simp,λk hk=>setRow_other w b k _ hk,rfl,rfl,rfl⟩
 ·simp;omega
 ·rw[Ly,<-hul];exact ((h2.take off).append hx).append (h2.drop _)
 ·intro j v hv;rw[Cy (by omega)] at hv
  have hg:(cur.toList.take (o+off)++us++cur.toList.drop (o+off+us.length)).toArray[o+j]? =if o+off<=o+j/\o+j<o+off+us.length then us[o+j-(o+off)]? else cur[o+j]? :=by
   rw[Ld,Cy (by simp;omega)]
   simp
  rw[hg];split at hv
  ·rename_i hc;rw[aG (by omega)]
   have:o+j-(o+off)=j-off:=by omega
   rw[this];exact hv
  ·rename_i hc;rw[aC (by omega)]
   exact h3 j v hv
end
section
variable {E:Env} {g:Gh} {f:Hf} {w:World}
variable {P:J5} {kc:O'}
structure hZ (g:Gh) (f:Hf) (w:World) (v:SV) (us:gO) (new:Nat) (r:C') (g':Gh) (w':World):Prop where
 val:VR g' r v
 hr:HR g' (gY f us) w'
 fr:Fr g f w g' (gY f us) w'
 ro:∀id,id≠new->g'.O id=g.O id
 nil:us= []->g'=g
def hZ.same (h:HR g f w) {v:SV} (hv:VR g r v):hZ g f w v [] new r g w:=⟨hv,h,Fr.refl _ _ _,λ_ _=>rfl,λ_=>rfl⟩
def HR.at (h:HR g f w) {id b:Nat} {o:SO} (hf:f id=V o) (hρ:g.O id=V (b,c)):b<w.heap.size/\OR g w id b c o:=by
 let ⟨b',c',q1,q2,q3⟩:=h.ob id o hf;rw[hρ] at q1;obtain ⟨rfl,rfl⟩:b=b'/\c=c':=by simpa using q1
 exact ⟨q2,q3⟩
def akF {i:TI} (hT:EC P t i) (ha:mT i.desc=M) {vs:fG} (hl:vs.length=i.size) (ad:Addr) (h:∀j v,vs[j]? =V v->w.cell? (ad.add j)=V v):(loadVar t ad).run P w= .ok (.agg vs.toArray) w:=by
 have:=run_loadCells_list (P:=P) w ad vs h;rw[hl] at this;simp only[loadVar,D',CA hT,ha,E',aw,oZ hT,this,I']
def akE {i:TI} (hT:EC P t i) (ha:mT i.desc=I) (ad:Addr) (h:w.cell? ad=V v):(loadVar t ad).run P w= .ok v w:=by
 simp only[loadVar,D',CA hT,ha,E',ax,au,run_load,h]
def SQ (hE:fJ E g) (h:HR g f w) {x z:SV} (hu:VR g u x) (zt:rm E f t x=V z):∃r,(Instr.loadAt t u).run E.P w= .ok r w/\VR g r z:=by
 let ⟨q,h1,hl⟩:=aq zt;let ⟨i,hi,hl⟩:=aq hl;let ⟨p,hp,hl⟩:=aq hl;obtain rfl:=rh h1;have hT:=hE.ty t i hi;have hx:∃x,f q.1=V x/\jD (V x) q.2 (wide i)=V p:=by
  cases hf:f q.1 with
  |none=>rw[hf] at hp;cases hp
  |some x=>exact ⟨x,rfl,by rw[<-hf];exact hp⟩
 let ⟨x,hf,hx⟩:=hx;cases hu with
 | @ptr _ _ b o hρ=>
  have hc:OR g w q.1 b o x:=(h.at hf hρ).2;unfold je at hl;rw[cE] at hl;split at hl
  ·rename_i ha;let ⟨hle,hl⟩:=ba hl;have hle:=(bR _ _).1 hle;cases hl;have hw:wide i=i.size:=by unfold wide;rw[ha]
   rw[hw] at hx;let ⟨vs,v1,v2,v3⟩:=hc.gA hx hle;refine ⟨.agg vs.toArray,?_,.agg (by simpa using v2)⟩
   simp only[Instr.loadAt,ab9,D',I',E'];exact akF hT ha v1 _ (λj v hj=>by rw[add_lit];exact v3 j v hj)
  ·rename_i ha;have dq:q.2<p.2.length:=(bO.1 hl).1;have hw:wide i=1:=by unfold wide;rw[show mT i.desc=I by simpa using ha]
   rw[hw] at hx;let ⟨vs,v1,v2,v3⟩:=hc.gA hx (by omega)
   have hz:((p.2.drop q.2).take 1)[0]? =V z:=by rw[eZ,aG (by omega),fp,nH];exact hl
   let ⟨v,hv,_,hd⟩:=v2.get hz;refine ⟨v,?_,hd⟩;simp only[Instr.loadAt,ab9,D',I',E'];exact akE hT (by simpa using ha) _ (by have:=v3 0 v hv;rwa[nH] at this)
def ako (hE:fJ E g) (h:HR g f w) {x y:SV} (hu:VR g u x) (hv:VR g v y) {us:gO} (zt:wQ E f t y x=V us):
  ∃w',(Instr.storeAt t u v).run E.P w= .ok () w'/\HR g (gY f us) w'/\Fr g f w g (gY f us) w':=by
 let ⟨q,h1,hl⟩:=aq zt;let ⟨i,xs,p,hi,hxs,hp,hl⟩:=CM hl;obtain rfl:=rh h1;let ⟨hc,hl⟩:=ba hl;cases hl;rw[bG] at hc;have hlen:=(beq_iff _ _).1 hc.1;have hle:=(bR _ _).1 hc.2;have hf:=rS hp;have hT:=hE.ty t i hi;have hcr:=hv.jD hxs;cases hu with
 | @ptr _ _ b o hρ=>
  have hcc:Cells g w q.1 b o p.1 p.2:=(h.at hf hρ).2;let ⟨w',q1,q2,q3,q4,q5,q6,q7⟩:=hcc.store (P:=E.P) hcr hle;let ⟨r1,r2⟩:=h.write (o':=.cells p.1 (eB p.2 q.2 xs)) hf hρ q3 q4 q2 q5 q6 q7;refine ⟨w',?_,r1,r2⟩;have oA:v.cells.size=i.size:=by rw[<-hlen,<-hcr.length];simp
  simp only[Instr.storeAt,ab9,storeVar,D',I',E',oZ hT,oA,ne_eq,not_true,au,ab6];exact q1
def hY.eB {vs us:fG} {cs xs:bc} (h:hY g vs cs) (k:hY g us xs):hY g (vs.take off++us++vs.drop (off+us.length)) (bM.eB cs off xs):=by
 rw[Ly,k.length];exact ((h.take off).append k).append (h.drop _)
def CL (place:Nat->Z (Nat×Nat)):∀(parts:List (Nat×C')) (jo:List (Nat×bc)) (vs:jw) (cs rs:bc),hY g vs.toList cs->
  parts.length=jo.length->(∀(j:Nat) (i:Nat) (v:C') (i':Nat) (xs:bc),parts[j]? =V (i,v)->jo[j]? =V (i',xs)->i=i'/\hY g v.cells.toList xs)->oe place cs jo=V rs->
  ∃us,Instr.fill place vs parts=V us/\hY g us.toList rs
 | [],[],vs,cs,rs,hc,_,_,h=>by cases h;exact ⟨vs,rfl,hc⟩
 |(i,v)::parts,(i',xs)::jo,vs,cs,rs,hc,hl,hp,h=>by
  obtain ⟨rfl,hx⟩:=hp 0 i v i' xs rfl rfl;let ⟨q,Fq,h⟩:=aq (show az (place i) (λq=>aT (ku xs.length q.2&&kQ (wW q.1 q.2) cs.length) (oe place (bM.eB cs q.1 xs) jo) G)=V rs from h)
  let ⟨aqi,h⟩:=ba h;rw[bG] at aqi;have h1:=(beq_iff _ _).1 aqi.1;have h2:q.1+q.2<=cs.length:=(bR _ _).1 aqi.2;let ⟨off,size⟩:=q;simp only at h1 h2 Fq h;have hvl:v.cells.size=size:=by rw[<-h1,<-hx.length];simp
  have eY:vs.size=cs.length:=by rw[<-hc.length];simp
  have aPO:(v.cells.zipIdx.foldl (λcs (c,j)=>cs.setIfInBounds (off+j) c) vs).toList=vs.toList.take off++v.cells.toList++vs.toList.drop (off+v.cells.toList.length):=by
   rw[<-Array.foldl_toList,Array.toList_zipIdx];let ⟨f1,f2⟩:=Great.foldl_set off v.cells.toList 0 vs;apply vV;intro j;rw[Cy (by simp;omega)]
   have:=f2 j;simp only[nH] at this;rw[l5];refine this.trans ?_;simp only[NT,l5];by_cases hj:off<=j/\j<off+v.cells.size
   ·rw[aG hj,aG ⟨hj.1,hj.2,by omega⟩]
   ·rw[aC hj,aC (by omega)]
  have nL:=hc.eB hx (off:=off);rw[<-aPO] at nL;let ⟨us,hu1,hu2⟩:=CL place parts jo _ _ rs nL (by simpa using hl) (λj i v i' xs ha hb=>hp (j+1) i v i' xs (by simpa using ha) (by simpa using hb)) h
  refine ⟨us,?_,hu2⟩;unfold Instr.fill;simp only[Fq];rw[aC (by simp[hvl];omega)]
  exact hu1
 | [],_::_,_,_,_,_,hl,_,_=>by simp at hl
 |_::_,[],_,_,_,_,hl,_,_=>by simp at hl
def Gu {nt:Nat} {tm:Tf} {a:Act} (h:FR g nt tm a.tmps):∀(parts:List (Nat×Ew)) (l:List (Nat×bc)),ma tm parts=V l->
  parts.length=l.length/\∀(j:Nat) (i:Nat) (v:C') (i':Nat) (xs:bc),(parts.map λ(i,x)=>(i,a.eval x))[j]? =V (i,v)->l[j]? =V (i',xs)->i=i'/\hY g v.cells.toList xs
 | [],l,hp=>by cases hp;simp
 |(i,x)::parts,l,hp=>by
  let ⟨v,hv,hp⟩:=aq hp;let ⟨cs,l',hc,Ea,hp⟩:=bU hp;cases hp;let ⟨h1,h2⟩:=Gu h parts l' Ea;refine ⟨by simp[h1],λj i1 u i2 xs ha hb=> ?_⟩
  cases j with
  |zero=>
   simp at ha hb;obtain ⟨rfl,rfl⟩:=ha;obtain ⟨rfl,rfl⟩:=hb;exact ⟨rfl,(s9 h hv).jD hc⟩
  |succ j=>simp at ha hb;exact h2 j i1 u i2 xs (by simpa using ha) hb
def aor {i:TI} (h:EC P t i):∃z,(∀w,(zeroValue t).run P w= .ok z w)/\(∀g,hY g z.cells.toList i.zero):=by
 let ⟨z,h1,h2,_⟩:=aeN h;exact ⟨z,h1,h2.1⟩
def Tg {p p':Nat->Z (Nat×Nat)} (hp:∀j q,p j=V q->p' j=V q):∀(jo:List (Nat×bc)) (cs rs:bc),oe p cs jo=V rs->oe p' cs jo=V rs
 | [],cs,rs,h=>h
 |(i,xs)::jo,cs,rs,h=>by
  let ⟨q,h1,h⟩:=aq (show az (p i) (λq=>aT (ku xs.length q.2&&kQ (wW q.1 q.2) cs.length) (oe p (bM.eB cs q.1 xs) jo) G)=V rs from h)
  let ⟨hc,h⟩:=ba h;show az (p' i) (λq=>aT (ku xs.length q.2&&kQ (wW q.1 q.2) cs.length) (oe p' (bM.eB cs q.1 xs) jo) G)=V rs
  rw[hp _ _ h1];show aT (ku xs.length q.2&&kQ (wW q.1 q.2) cs.length) (oe p' (bM.eB cs q.1 xs) jo) G=V rs;rw[hc];exact Tg hp jo _ _ h
def P6 (P:J5):∀(l:List Field),(∀f∈l,(P.info? f.type).isSome=M)->∃DQ,l.mapM (λf=>(P.info? f.type).map λi=>(f.offset,i.size))=V DQ/\
  ∀(j:Nat) (f:Field) (i:TypeInfo),l[j]? =V f->P.info? f.type=V i->DQ[j]? =V (f.offset,i.size)
 | [],_=>⟨[],rfl,by simp⟩
 |f::l,h=>by
  let ⟨DQ,h1,h2⟩:=P6 P l (λx hx=>h x (by simp[hx]))
  let ⟨i,hi⟩:=NU.1 (h f (by simp))
  refine ⟨(f.offset,i.size)::DQ,by simp[V7,hi,h1],λj x ix hx By=> ?_⟩
  cases j with
  |zero=>simp at hx;subst hx;rw[hi] at By;cases By;rfl
  |succ j=>simp at hx;simpa using h2 j x ix hx By
def ZO {r:Z bc} {z:SV} (h:MT r=V z):∃cs,r=V cs/\z= .agg cs:=by
 let ⟨cs,h1,h2⟩:=aq h;cases h2;exact ⟨cs,h1,rfl⟩
def akP (hE:fJ E g) {jo:List (Nat×bc)} {x:SV} (qF:MP E t jo=V x) (hl:parts.size=jo.length) (hp:∀(j:Nat) (i:Nat) (v:C') (i':Nat) (xs:bc),parts.toList[j]? =V (i,v)->jo[j]? =V (i',xs)->i=i'/\hY g v.cells.toList xs) (w:World):
  ∃v,(Instr.build t parts).run E.P w= .ok v w/\VR g v x:=by
 let ⟨i,hi,hb⟩:=aq qF;have hT:=hE.ty t i hi;let ⟨it,zv,q1,_,_,_,q5,q6,_⟩:=hT.info;have hz:=q6.1 g;have hd:=hT.desc;generalize i.desc=D at hd hb;cases D with
 |array n e=>
  let ⟨ie,hie,hb⟩:=aq (show az (E.ty.get e) (λie=>MT (oe (tX ie.size) i.zero jo))=V x from hb)
  obtain ⟨rs,hf,rfl⟩:=ZO hb;let ⟨us,hu1,hu2⟩:=CL (tX ie.size) parts.toList jo zv.cells i.zero rs hz (by simpa using hl) hp hf
  let ⟨fe,_,e1,e2,_⟩:=(hE.ty e ie hie).info;refine ⟨.agg us,run_build w t parts us ?_,.agg hu2⟩;unfold Program.built;simp only[q1,(show E.P.underlying t=V (.array n e) from hd),q5,e1,e2];exact hu1
 |struct fs=>
  let ⟨a,hu,hfs,jq⟩:=hd;obtain ⟨rs,hf,rfl⟩:=ZO (show MT (oe (Sx E fs) i.zero jo)=V x from hb);let ⟨DQ,p1,p2⟩:=P6 E.P a.toList jq;have hf':=Tg (p':=(DQ.toArray[·]?)) (λj q hq=>by
   let ⟨fl,h1,h2⟩:=aq hq;let ⟨fi,h3,h4⟩:=aq h2;cases h4;rw[<-hfs,nQ] at h1;cases hj:a.toList[j]? with
   |none=>rw[hj] at h1;simp at h1
   |some fd=>
    rw[hj] at h1;simp at h1;subst h1;let ⟨ff,_,e1,e2,_⟩:=(hE.ty _ fi h3).info;have:=p2 j fd ff hj e1;rw[e2] at this;simpa using this) jo _ _ hf
  let ⟨us,hu1,hu2⟩:=CL (DQ.toArray[·]?) parts.toList jo zv.cells i.zero rs hz (by simpa using hl) hp hf'
  refine ⟨.agg us,run_build w t parts us ?_,.agg hu2⟩;unfold Program.built;simp only[q1,hu,q5,p1];exact hu1
 |_=>cases hb
def Zt {J:Type} [Inhabited J] (zs:List J) (s:Nat) (hs:zs.length=s):∀n,(List.range (n*s)).map (λk=>zs.toArray[k % s]!)=(V' n zs).flatten
 |0=>by simp
 |n+1=>by
  have e:(n+1)*s=s+n*s:=by rw[fW];omega
  rw[e,List.range_add,ka,tS,V2,pX,<-Zt zs s hs n];congr 1
  ·apply vV;intro j;rw[nQ];by_cases hj:j<s
   ·rw[List.getElem?_range hj];simp[Nat.mod_eq_of_lt hj,hs,hj]
   ·rw[qP (by simp;omega),qP (by omega)];rfl
  ·refine vj λk _=> ?_
   simp
def alU {vs:fG} {cs:bc} (h:hY g vs cs):∀n,hY g (V' n vs).flatten (rep cs n)
 |0=>by simpa using .nil
 |n+1=>by rw[V2,pX];exact h.append (alU h n)
def E3 {i:TI} (hT:EC P t i) (h1:P.info? t=V it) (h2:it.zero=V z) (pN:nN i=M) (n:Nat):
  hY g ((Array.range (n*it.size)).map (z.cells[· % z.cells.size]!)).toList (rep i.zero n)/\it.size=i.size/\1<=i.size/\it.bytes<=65536/\z.cells.size=i.size:=by
 let ⟨it',z',q1,q2,q3,_,q5,q6,_⟩:=hT.info;rw[h1] at q1;cases q1;rw[h2] at q5;cases q5;unfold nN at pN;rw[bG,bG] at pN;have k1:=(bR _ _).1 pN.1;have k2:=(bR _ _).1 pN.2.1;have k3:=(beq_iff _ _).1 pN.2.2;have hzl:z.cells.size=i.size:=by rw[<-k3,<-(q6.1 g).length];simp
 refine ⟨?_,q2,k2,by omega,hzl⟩
 have:=alU (q6.1 g) n;rw[<-Zt z.cells.toList i.size (by simpa using hzl) n] at this
 rw[Array.toList_map,Array.toList_range,q2,hzl];simpa using this
def HR.row (h:HR g f w) (hn:g.O new=G) {arr:jw} {vs:fG} {cs:bc} (hw0:w0.heap=w.heap/\w0.os=w.os/\w0.tape=w.tape/\w0.output=w.output) (hw:w'=w0.alloc (.cells arr e)) (hc:hY g vs cs) (yi:∀(j:Nat) (v:C'),vs[j]? =V v->arr[j]? =V v) {v:SV} (hl:l<=arr.size) (hv:VR (g.bind new (w.heap.size,0) l e) r v):hZ g f w v [(new,V (.cells e cs))] new r (g.bind new (w.heap.size,0) l e) w':=by
 have h0:HR g f w0:=⟨λid o ho=>by
   let ⟨b,c,q1,q2,q3⟩:=h.ob id o ho;exact ⟨b,c,q1,by rw[hw0.1];exact q2,q3.mono (.refl _) q1 (by rw[hw0.1])⟩,h.inj⟩
 have hs:w0.heap.size=w.heap.size:=by rw[hw0.1]
 have hcc:OR (g.bind new (w0.heap.size,0) l e) w' new w0.heap.size 0 (.cells e cs):=
  ⟨⟨arr,by rw[hw];exact heap_alloc_new w0 _,by rw[Gh.Aq];omega,vs,hc.mono (Gh.HF hn),λj v hv=>by rw[cg];exact yi j v hv⟩,Gh.Dl _ _ _ _ _⟩
 let ⟨r1,r2⟩:=h0.alloc hn (o':=.cells e cs) hw hcc;rw[hs] at r1 r2;exact ⟨hv,r1,⟨r2.os.trans hw0.2.1,r2.tape.trans hw0.2.2.1,r2.output.trans hw0.2.2.2,by have:=r2.size;omega,r2.le,λb hb hm=>(r2.old b (by omega) hm).trans (by rw[hw0.1]),λb hb hm=>r2.own b (by omega) hm⟩,λid cQ=>Gh.mn _ _ _ _ cQ,λD9=>by cases D9⟩
def P0 (hE:fJ E g) (h:HR g f w) (hn:g.O new=G) {tm:Tf} (jj:FR g nt tm a.tmps) {len:Nat} {parts:Array (Nat×Ew)} {jo:List (Nat×bc)} (hpc:ma tm parts.toList=V jo) {v:SV} {us:gO} (gw:qb E new t len jo=V (v,us)):
  ∃r w' g',(Instr.buildSlice t len (parts.map λ(i,x)=>(i,a.eval x))).run E.P w= .ok r w'/\hZ g f w v us new r g' w':=by
 let ⟨i,hi,ho⟩:=aq gw;let ⟨e,he,ho⟩:=aq ho;let ⟨ie,hie,ho⟩:=aq ho;let ⟨hc,ho⟩:=ba ho;let ⟨cs,hf,ho⟩:=aq ho;cases ho;rw[bG] at hc;have hsm:=(bR _ _).1 hc.2;have hd:=(hE.ty t i hi).desc;rw[uB he] at hd;have hT:=hE.ty e ie hie;let ⟨it,z,q1,q2,_,_,q5,_⟩:=hT.info;let ⟨z1,z2,z3,z4,z5⟩:=E3 (g:=g) hT q1 q5 hc.1 len;let ⟨hl,hpt⟩:=Gu jj parts.toList jo hpc;let ⟨arr,f1,f2⟩:=CL (tX ie.size) (parts.map λ(i,x)=>(i,a.eval x)).toList jo _ _ cs z1 (by simpa using hl) (λj i v i' xs h1 h2=>hpt j i v i' xs (by simpa using h1) h2) hf
 have hv:VR (g.bind new (w.heap.size,0) 0 e) (.slice (V ⟨w.heap.size,0,G⟩) len len) (.sl new 0 len (.k len)):=.sl (id:=new) (off:=0) (o:=0) (b:=w.heap.size) (cap:=.k len) (Gh.jZ _ _ _ _ _) (de _) (λm hm=>by cases hm;rfl) (λe hm=>by cases hm)
 refine ⟨_,_,_,?_,h.row hn (w0:=w) (w':=w.alloc (.cells arr e)) ⟨rfl,rfl,rfl,rfl⟩ rfl f2 (λj v hv=>by simpa using hv) (uq _) hv⟩
 by_cases h0:len=0
 ·subst h0;have hcs:jo= []:=by
   cases jo with
   |nil=>rfl
   |cons p ps=>
    let ⟨q,r1,r2⟩:=aq (show az (tX ie.size p.1) (λq=>aT (ku p.2.length q.2&&kQ (wW q.1 q.2) (rep ie.zero 0).length) (oe (tX ie.size) (bM.eB (rep ie.zero 0) q.1 p.2) ps) G)=V cs from hf)
    cases r1;let ⟨r3,_⟩:=ba r2;rw[bG] at r3;have:=(bR _ _).1 r3.2;simp[rep] at this;omega
  subst hcs;have hp0:parts= #[]:=by apply A4;exact v8 (by simpa using hl)
  subst hp0;simp at f1;simp[Instr.fill] at f1;simp[Instr.buildSlice,run_underlying (show E.P.underlying t=V (.slice e) from hd),sizeOf,typeInfo,q1,Instr.fill,newRow];rw[<-f1];congr 2;apply A4;simp
 ·have Ai:¬len*it.size=0:=by
   rw[z2];intro he;rcases Nat.mul_eq_zero.1 he with he|he<;>omega
  have hsm':¬len*it.size>2 ^ 24:=by rw[z2];have:len*ie.size<=16777216:=hsm;omega
  refine run_buildSlice w t e len _ _ it z hd q1 q5 hsm' Ai ?_;rw[z2] at f1 ⊢;exact f1
def akC (hE:fJ E g) (h:HR g f w) (hn:g.O new=G) {v:SV} {us:gO} (gw:Hy E new t l c=V (v,us)):
  ∃r w' g',(Instr.makeSlice t (.int kl (.ofNat l)) (.int kc (.ofNat c))).run E.P w= .ok r w'/\hZ g f w v us new r g' w':=by
 let ⟨i,hi,ho⟩:=aq gw;let ⟨e,he,ho⟩:=aq ho;let ⟨ie,hie,ho⟩:=aq ho;let ⟨hc,ho⟩:=ba ho;cases ho;rw[bG,bG] at hc;have h1:=(bR _ _).1 hc.1;have h2:=(bR _ _).1 hc.2.1;have hd:=(hE.ty t i hi).desc;rw[uB he] at hd;have hT:=hE.ty e ie hie;let ⟨it,z,q1,q2,_,_,q5,_⟩:=hT.info;let ⟨z1,z2,z3,z4,z5⟩:=E3 (g:=g) hT q1 q5 hc.2.2 c;have hb:it.bytes*c<=65536*1000000:=Nat.mul_le_mul z4 h2;have qK:=run_make w t e it z hd q1 q5 kl kc (.ofNat l) (.ofNat c) (by simp) (by simp;omega) (by
  have:((it.bytes*c:Nat):Int)<=281474976710656:=by omega
  simpa using this) (by simp;omega)
 simp only[GY,NN] at qK;have hv:VR (g.bind new (w.heap.size,0) 0 e) (.slice (V ⟨w.heap.size,0,G⟩) l c) (.sl new 0 l (.k c)):=.sl (id:=new) (off:=0) (o:=0) (b:=w.heap.size) (cap:=.k c) (Gh.jZ _ _ _ _ _) h1 (λm hm=>by cases hm;rfl) (λe hm=>by cases hm)
 exact ⟨_,_,_,qK,h.row hn (w0:=w) ⟨rfl,rfl,rfl,rfl⟩ rfl z1 (λj v hv=>by rw[l5] at hv;exact hv) (uq _) hv⟩
end
section
variable {E:Env} {g:Gh} {f:Hf} {w:World}
variable {P:J5} {y:Nat} {hi:Z Ew}
def QF (hE:fJ E g) (h:HR g f w) {s:pJ} {x v:SV} (hu:VR g u x) {us:gO} (gw:rK E s k x=V (v,us)):
  ∃r,(Instr.fieldAt s u k).run E.P w= .ok r w/\hZ g f w v us new r g w:=by
 let ⟨i,p,hi,hp,ho⟩:=bU gw;let ⟨fs,hfs,ho⟩:=aq ho;let ⟨fl,Ed,ho⟩:=aq ho;let ⟨fi,hfi,ho⟩:=aq ho;let ⟨hc,ho⟩:=ba ho;cases ho;obtain rfl:=rh hp;have hd:=(hE.ty s i hi).desc;rw[Lu hfs] at hd;let ⟨a,ud,ha,jq⟩:=hd;subst ha;rw[nQ] at Ed;cases hj:a.toList[k]? with
 |none=>rw[hj] at Ed;simp at Ed
 |some fd=>
  rw[hj] at Ed;simp at Ed;subst Ed;have hj':a[k]? =V fd:=by simpa using hj
  have hs:=oZ (hE.ty _ fi hfi) w;have h1:=(bR _ _).1 hc;have cQ:¬fi.size=0:=by omega
  cases hu with
  | @ptr _ _ b o hρ=>
   refine ⟨.pointer (V ⟨b,o+(p.2+fd.offset),G⟩),?_,hZ.same h (.ptr hρ)⟩;simp only[Instr.fieldAt,D',run_underlying ud,E',hj',ab9,I',fieldPlace,hs,aC cQ,ab6,add_lit,gD]
def aft (hE:fJ E g) (h:HR g f w) {x v:SV} (hu:VR g u x) {us:gO} (gw:De E t k x=V (v,us)):
  ∃r,(Instr.field t u k).run E.P w= .ok r w/\hZ g f w v us new r g w:=by
 let ⟨i,cs,hi,hp,ho⟩:=bU gw;let ⟨fs,hfs,ho⟩:=aq ho;let ⟨fl,Ed,ho⟩:=aq ho;let ⟨fi,hfi,ho⟩:=aq ho;let ⟨z,hz,ho⟩:=aq ho;cases ho;obtain rfl:=CO hp;have hd:=(hE.ty t i hi).desc;rw[Lu hfs] at hd;let ⟨a,ud,ha,jq⟩:=hd;subst ha;rw[nQ] at Ed;cases hj:a.toList[k]? with
 |none=>rw[hj] at Ed;simp at Ed
 |some fd=>
  rw[hj] at Ed;simp at Ed;subst Ed;have hj':a[k]? =V fd:=by simpa using hj
  cases hu with
  |agg hc=>
   let ⟨r,r1,r2⟩:=CB (hE.ty _ fi hfi) hz hc w;refine ⟨r,?_,hZ.same h r2⟩;simp only[Instr.field,D',run_underlying ud,E',hj',asAgg,I',r1]
def afs (hE:fJ E g) (h:HR g f w) {x v:SV} (hu:VR g u x) {us:gO} (gw:Ad E t k x=V (v,us)):
  ∃r,(Instr.index t u (.int kk (.ofNat k))).run E.P w= .ok r w/\hZ g f w v us new r g w:=by
 let ⟨i,hi,ho⟩:=aq gw;have hd:=(hE.ty t i hi).desc;generalize i.desc=D at hd ho;cases D with
 |string=>
  let ⟨s,hs,ho⟩:=aq (show az (strOf x) (λs=>az (s.data.toList[k]?) λb=>V (SV.int .u8 (.lit (.ofNat b.toNat)),([]:gO)))=V (v,us) from ho)
  let ⟨b,hb,ho⟩:=aq ho;cases ho;obtain rfl:=qZ hs;cases hu;refine ⟨.int .u8 b.toNat,?_,hZ.same h (.int _ _ (by simp[SI.ev]))⟩
  have dq:k<s.data.toList.length:=(bO.1 hb).1;have hlt':k<s.size:=by simpa using dq
  have nU:s[k]? =V b:=by
   rw[getElem?_pos s k hlt'];have:s.data.toList[k]=b:=(bO.1 hb).2;rw[<-this];rfl
  have h0:(0:Int)<=ab3 k:=by simp
  simp only[Instr.index,asIntOf,D',I',E',run_underlying (show E.P.underlying t=V .string from hd),aG h0];simp only[GY,NN,nU,I']
 |array n e=>
  let ⟨cs,ie,hcs,hie,ho⟩:=bU (show cC (OZ x) (E.ty.get e) (λcs ie=>aT (kQ (LJ k) n) (same (je ie cs (B' k ie.size))) G)=V (v,us) from ho)
  let ⟨hc,ho⟩:=ba ho;let ⟨z,hz,ho⟩:=aq ho;cases ho;obtain rfl:=CO hcs;have dq:k+1<=n:=(bR _ _).1 hc;cases hu with
  |agg hcc=>
   let ⟨r,r1,r2⟩:=CB (hE.ty _ ie hie) hz hcc w;refine ⟨r,?_,hZ.same h r2⟩;have jq:(0:Int)<=ab3 k/\ab3 k<(n:Int):=⟨by simp,by simp;omega⟩
   simp only[Instr.index,asIntOf,D',I',E',run_underlying (show E.P.underlying t=V (.array n e) from hd),aG jq,oZ (hE.ty _ ie hie)];exact r1
 |_=>cases ho
def S5 (hE:fJ E g) {x z:SV} (hu:VR g u x) (gw:rp E t x k=V z):
  ∃r,(Instr.indexAt t u (.int kk (.ofNat k))).run E.P w= .ok r w/\VR g r z:=by
 let ⟨i,hi,ho⟩:=aq gw;have hd:=(hE.ty t i hi).desc;generalize i.desc=D at hd ho;cases D with
 |slice e=>
  let ⟨q,hq,ho⟩:=aq (show az (azN x) (λq=>Di E e q.1 q.2.1 q.2.2.1 k)=V z from ho)
  let ⟨hc,ho⟩:=ba ho;let ⟨ie,hie,ho⟩:=aq ho;cases ho;obtain rfl:=auT hq;have dq:k+1<=q.2.2.1:=(bR _ _).1 hc;cases hu with
  | @sl _ _ _ b o c _ hρ hn jr vF=>
   refine ⟨.pointer (V ⟨b,o+(q.2.1+k*ie.size),G⟩),?_,.ptr hρ⟩;have jq:(0:Int)<=ab3 k/\ab3 k<(q.2.2.1:Int):=⟨by simp,by simp;omega⟩
   simp only[Instr.indexAt,asIntOf,D',I',E',run_underlying (show E.P.underlying t=V (.slice e) from hd),aG jq,oZ (hE.ty _ ie hie),ab6,add_lit];simp[gD]
 |array n e=>
  let ⟨q,hq,ho⟩:=aq (show az (xj x) (λq=>Di E e q.1 q.2 n k)=V z from ho)
  let ⟨hc,ho⟩:=ba ho;let ⟨ie,hie,ho⟩:=aq ho;cases ho;obtain rfl:=rh hq;have dq:k+1<=n:=(bR _ _).1 hc;cases hu with
  | @ptr _ _ b o hρ=>
   refine ⟨.pointer (V ⟨b,o+(q.2+k*ie.size),G⟩),?_,.ptr hρ⟩;have jq:(0:Int)<=ab3 k/\ab3 k<(n:Int):=⟨by simp,by simp;omega⟩
   simp only[Instr.indexAt,asIntOf,D',I',E',run_underlying (show E.P.underlying t=V (.array n e) from hd),ab9,aG jq,oZ (hE.ty _ ie hie),ab6,add_lit];simp[gD]
 |_=>cases ho
def run_sliceBound {k:O'} (h1:n<=y) (c:BoundsCode):(Instr.sliceBound (.int k (.ofNat n)) y c).run P w= .ok n w:=by
 have:(0:Int)<=ab3 n/\ab3 n<=(y:Int):=⟨by simp,by simp;omega⟩
 simp only[Instr.sliceBound,asIntOf,D',I',E',ab6];rw[aG this];rfl
def AH {tm:Tf} (jj:FR g nt tm a.tmps) {x:Z Ew} {r:cD} (h:mc tm x=V r):
  (x=G/\r=G)\/∃y k n,x=V y/\r=V n/\a.eval y= .int k (.ofNat n):=by
 cases x with
 |none=>cases h;exact .inl ⟨rfl,rfl⟩
 |some y=>
  let ⟨v,hv,h⟩:=aq h;let ⟨n,hn,h⟩:=aq h;cases h;obtain ⟨k,rfl⟩:=wm hn;have:=s9 jj hv;generalize hu:a.eval y=u at this;cases this with
  |int _ _ e=>exact .inr ⟨y,k,n,rfl,rfl,by rw[hu,e];rfl⟩
def rb {tm:Tf} (jj:FR g nt tm a.tmps) {mx:Z Ew} {l u m:cD} (hl:mc tm lo=V l) (hu:mc tm hi=V u) (hm:mc tm mx=V m) (Cl:Bool) (len cap:Nat) (h1:l.getD 0<=u.getD len) (h2:u.getD len<=m.getD cap) (h3:m.getD cap<=cap) (h4:m≠G->u≠G):
  (Instr.sliceBounds Cl len cap (lo.map a.eval) (hi.map a.eval) (mx.map a.eval)).run P w= .ok (l.getD 0,u.getD len,m.getD cap) w:=by
 rcases AH jj hl with ⟨rfl,rfl⟩|⟨y1,k1,n1,rfl,rfl,e1⟩<;>rcases AH jj hu with ⟨rfl,rfl⟩|⟨y2,k2,n2,rfl,rfl,e2⟩<;>rcases AH jj hm with ⟨rfl,rfl⟩|⟨y3,k3,n3,rfl,rfl,e3⟩<;>
  simp only[CZ,NL] at h1 h2 h3<;>
  first
   |exact absurd rfl (h4 (Option.some_ne_none _))
   |(
    simp only[Instr.sliceBounds,Lh,VU,D',I',E',CZ,NL,Option.isSome_some,Option.isSome_none]
    try simp only[e3,run_sliceBound (P:=P) (w:=w) (k:=k3) h3,E']
    try simp only[e2,run_sliceBound (P:=P) (w:=w) (k:=k2) h2,E']
    try simp only[e1,run_sliceBound (P:=P) (w:=w) (k:=k1) h1,E'])
def A0 {m:cD} (h:oF m=M):m.getD 0=0:=by
 cases m with
 |none=>rfl
 |some n=>exact (beq_iff _ _).1 h
def aaq (a:Addr):a.add 0=a:=by unfold Addr.add;split<;>simp_all
def anb {id h b:Nat} {size:Nat} {m:Cp} (hρ:g.O id=V (b,o)) (h1:l<=h) (h2:h<=f7) (hm:∀k,m= .k k->f7=k) (hz:∀e,m= .u e->g.et id=e/\size=g.sz e/\off+f7*size<=g.lim id):
  VR g (.slice (V (if f7=l then ⟨b,o+off,G⟩ else (⟨b,o+off,G⟩:Addr).add (l*size))) (h-l) (f7-l)) (B9 id off l h size m):=by
 by_cases h0:l=0
 ·subst h0;have e1:B9 id off 0 h size m= .sl id off h m:=rfl;have e2:(if f7=0 then (⟨b,o+off,G⟩:Addr) else (⟨b,o+off,G⟩:Addr).add (0*size))=⟨b,o+off,G⟩:=by
   split
   ·rfl
   ·rw[mK,aaq]
  rw[e1,e2];exact .sl hρ (by omega) (λk hk=>by rw[hm k hk];omega) (λe hn=>by let ⟨q0,q1,q2⟩:=hz e hn;rw[<-q1];exact ⟨q0,q2⟩)
 ·have e0:ku l 0=I:=by rw[beq_eq];simpa using h0
  by_cases dq:l+1<=h
  ·have e1:B9 id off l h size m= .sl id (off+l*size) (h-l) (zx m l):=by
    unfold B9;rw[e0,show kQ (LJ l) h=M from (bR _ _).2 dq];rfl
   rw[e1,aC (by omega),add_lit,gD]
   refine .sl hρ (by omega) (λk hk=> ?_) (λe hk=> ?_)
   ·cases m with
    |u e'=>cases hk
    |k c=>cases hk;rw[hm c rfl];rfl
   ·cases m with
    |k c=>cases hk
    |u e'=>
     cases hk;let ⟨q0,q1,q2⟩:=hz _ rfl;rw[<-q1];refine ⟨q0,?_⟩;have:l*size+(f7-l)*size=f7*size:=by rw[<-fW];congr 1;omega
     show off+l*size+(f7-l)*size<=g.lim id;omega
  ·have e1:B9 id off l h size m= .sle:=by
    unfold B9;rw[e0,show kQ (LJ l) h=I from by rw[ble_eq];simpa using dq]
   rw[e1];have:h-l=0:=by omega
   rw[this];exact .sle
def LB {id:Nat} {cap:Cp} {lo hi mx:cD} {z:SV} (h:zW E e id off n cap lo hi mx=V z):
  ∃ie,E.ty.get e=V ie/\lo.getD 0<=hi.getD n/\hi.getD n<=reach cap n/\(∀m,mx=V m->hi.getD n<=m/\m<=reach cap n)/\(∀e',cap= .u e'->e'=e)/\z=B9 id off (lo.getD 0) (hi.getD n) ie.size (orC mx cap):=by
 let ⟨ie,hie,h⟩:=aq h;let ⟨hc,h⟩:=ba h;cases h;rw[bG,bG,bG] at hc;refine ⟨ie,hie,(bR _ _).1 hc.2.1,(bR _ _).1 hc.2.2.1,λm hm=> ?_,λe' he=>by subst he;exact (beq_iff _ _).1 hc.1,rfl⟩
 subst hm;have:=hc.2.2.2;simp only[apx,bG] at this;exact ⟨(bR _ _).1 this.1,(bR _ _).1 this.2⟩
def akr (hE:fJ E g) {tm:Tf} (jj:FR g nt tm a.tmps) {x z:SV} (hv:VR g v x) {mx:Z Ew} {l u m:cD} (hl:mc tm lo=V l) (hu:mc tm hi=V u) (hm:mc tm mx=V m) (gw:Hm E t x l u m=V z):
  ∃r,(ac2 t v (lo.map a.eval) (hi.map a.eval) (mx.map a.eval)).run E.P w= .ok r w/\VR g r z:=by
 let ⟨i,uX,ho⟩:=aq gw;let ⟨hmh,ho⟩:=ba ho;have h4:m≠G->u≠G:=by
  intro hm hu;subst hu;cases m with
  |none=>exact hm rfl
  |some k=>simp[aDr] at hmh
 have hd:=(hE.ty t i uX).desc;generalize i.desc=D at hd ho;cases D with
 |string=>
  let ⟨s,hs,ho⟩:=aq (show az (strOf x) (λs=>aeI s l u m)=V z from ho)
  obtain rfl:=qZ hs;cases hv;cases m with
  |some _=>cases ho
  |none=>
   let ⟨hc,ho⟩:=ba (show aT (kQ (l.getD 0) (u.getD s.size)&&kQ (u.getD s.size) s.size) (V (SV.str (s.extract (l.getD 0) (u.getD s.size)))) G=V z from ho);cases ho;rw[bG] at hc;have hmx:mx=G:=by
    rcases AH jj hm with ⟨rfl,_⟩|⟨_,_,_,_,hx,_⟩
    ·rfl
    ·simp at hx
   subst hmx;have hb:=rb (P:=E.P) (w:=w) jj hl hu (mx:=G) (m:=G) rfl I s.size s.size ((bR _ _).1 hc.1) ((bR _ _).1 hc.2) (de _) (by simp)
   refine ⟨.string (s.extract (l.getD 0) (u.getD s.size)),?_,.str _⟩;simp only[VU] at hb;simp only[ac2,D',run_underlying (show E.P.underlying t=V .string from hd),E',Instr.slice,VU,Option.isSome_none,ax,au,ab6,I',hb]
 |slice e=>
  let ⟨ie0,hie0,ho⟩:=aq (show az (E.ty.get e) (λ_=>LA x E e l u m)=V z from ho)
  cases hv with
  | @sl id off n b o c cap hρ hn jr vF=>
   obtain ⟨ie,hie,c1,c2,c3,c4,rfl⟩:=LB (show zW E e id off n cap l u m=V z from ho);have hcc:reach cap n<=c:=by
    cases cap with
    |u e'=>exact hn
    |k m=>rw[jr m rfl];exact de _
   have hb:=rb (P:=E.P) (w:=w) jj hl hu hm M n c c1 (by
    cases m with
    |none=>simp;omega
    |some k=>exact (c3 k rfl).1) (by
    cases m with
    |none=>simp
    |some k=>simp;have:=(c3 k rfl).2;omega) h4
   refine ⟨_,?_,anb (f7:=m.getD c) hρ c1 (by
    cases m with
    |none=>simp;omega
    |some k=>exact (c3 k rfl).1) (λk hk=> ?_) (λe' hk=> ?_)⟩
   ·simp only[ac2,D',run_underlying (show E.P.underlying t=V (.slice e) from hd),E',Instr.slice,hb,oZ (hE.ty _ ie hie),I'];congr 2;split<;>rfl
   ·cases m with
    |some k'=>cases hk;rfl
    |none=>exact jr k hk
   ·cases m with
    |some k'=>cases hk
    |none=>
     have hk:cap= .u e':=hk;let ⟨l1,l2⟩:=vF e' hk;have he:=c4 e' hk;subst he;have oA:=hE.size hie;exact ⟨l1,oA.symm,by rw[<-oA];exact l2⟩
  | @sle ad c=>
   let ⟨hc,ho⟩:=ba (show aT (oF l&&(oF u&&m.isNone)) (V SV.sle) G=V z from ho);cases ho;rw[bG,bG] at hc;have z1:=A0 hc.1;have z2:=A0 hc.2.1;have hm0:m=G:=by cases m with|none=>rfl|some k=>simp at hc
   subst hm0;have hb:=rb (P:=E.P) (w:=w) jj hl hu hm M 0 c (by rw[z1];omega) (by rw[z2];simp) (de _) h4
   rw[z1,z2] at hb;refine ⟨.slice (if c=0 then ad else ad.map (·.add (0*ie0.size))) (0-0) (c-0),?_,.sle⟩
   simp only[ac2,D',run_underlying (show E.P.underlying t=V (.slice e) from hd),E',Instr.slice,hb,oZ (hE.ty _ ie0 hie0),I',NL]
  |cq=>
   let ⟨hc,ho⟩:=ba (show aT (oF l&&(oF u&&oF m)) (V SV.cq) G=V z from ho);cases ho;rw[bG,bG] at hc;have z1:=A0 hc.1;have z2:=A0 hc.2.1;have z3:=A0 hc.2.2;have hb:=rb (P:=E.P) (w:=w) jj hl hu hm M 0 0 (by rw[z1];omega) (by rw[z2];omega) (by rw[z3];omega) h4
   rw[z1,z2,z3] at hb;refine ⟨.slice G 0 0,?_,.cq⟩;simp only[ac2,D',run_underlying (show E.P.underlying t=V (.slice e) from hd),E',Instr.slice,hb,oZ (hE.ty _ ie0 hie0),I'];simp
  |_=>cases ho
 |array n e=>
  let ⟨q,hq,ho⟩:=aq (show az (xj x) (λq=>zW E e q.1 q.2 n (.k n) l u m)=V z from ho)
  obtain rfl:=rh hq;obtain ⟨ie,hie,c1,c2,c3,c4,rfl⟩:=LB ho;have c2:u.getD n<=n:=c2;have c3:∀k,m=V k->u.getD n<=k/\k<=n:=c3;cases hv with
  | @ptr _ _ b o hρ=>
   have hb:=rb (P:=E.P) (w:=w) jj hl hu hm I n n c1 (by
    cases m with
    |none=>simpa using c2
    |some k=>exact (c3 k rfl).1) (by
    cases m with
    |none=>simp
    |some k=>simpa using (c3 k rfl).2) h4
   refine ⟨_,?_,anb (f7:=m.getD n) hρ c1 (by
    cases m with
    |none=>simpa using c2
    |some k=>exact (c3 k rfl).1) (λk hk=> ?_) (λe' hk=>by cases m<;>cases hk)⟩
   ·simp only[ac2,D',run_underlying (show E.P.underlying t=V (.array n e) from hd),E',ab9,I',hb,oZ (hE.ty _ ie hie)]
   ·cases m with
    |some k'=>cases hk;rfl
    |none=>cases hk;rfl
 |_=>cases ho
end
section
variable {E:Env} {g:Gh} {f:Hf} {w:World}
variable {P:J5} {u2:C'}
def yZ {id:Nat} {old:bc} (h:mj f id off n=V old):∃x e cs,f id=V x/\jD (V x) off n=V (e,cs)/\off+n<=cs.length/\old=(cs.drop off).take n:=by
 let ⟨p,hp,h⟩:=aq h;let ⟨hc,h⟩:=ba h;cases h;cases hf:f id with
 |none=>rw[hf] at hp;cases hp
 |some x=>exact ⟨x,p.1,p.2,rfl,by rw[<-hf];exact hp,(bR _ _).1 hc,rfl⟩
def Qi (s:U):hY g (byteCells s) (HZ s):=by
 unfold byteCells HZ;generalize s.data.toList=l;induction l with
 |nil=>exact .nil
 |cons b l ih=>exact .cons rfl (.int _ _ (by simp[SI.ev])) ih
def azI {size:Nat} (hk:(∃e',P.underlying tx=V (.slice e'))\/P.underlying tx=V .string) (h:HR g f w) {x:SV} (hu:VR g u x) {q:Nat×bc} (hs:oK f size x=V q):
  ∃news,Src P size tx u q.1 news w/\hY g news q.2:=by
 have row:Bg f size x=V q->∃news,Src P size tx u q.1 news w/\hY g news q.2:=by
  intro hs;let ⟨n,xs,h1,h2,h3⟩:=bU hs;cases h3;rcases Fk h1 with ⟨id,off,c,rfl⟩|⟨rfl,rfl⟩|⟨rfl,rfl⟩
  ·cases hu with
   | @sl _ _ _ b o c' _ hρ hn jr vF=>
    obtain ⟨x0,e,cs,q1,q1',q2,rfl⟩:=yZ (show mj f id off (n*size)=V xs from h2);let ⟨vs,v1,v2,v3⟩:=OR.gA (h.at q1 hρ).2 q1' q2;have uW:∀(j:Nat) (v:C'),vs[j]? =V v->w.cell? ((⟨b,o+off,G⟩:Addr).add j)=V v:=λj v hv=>by rw[add_lit];exact v3 j v hv
    exact ⟨vs,⟨hk,λ_=>rfl,run_firstCells_some w size n _ n c' vs v1 uW,run_firstCells_some w.drew size n _ n c' vs v1 (by simpa using uW),v1,v2.one⟩,v2⟩
  ·cases hu;cases h2;exact ⟨[],⟨hk,λ_=>rfl,run_firstCells_none w size 0 0 0,run_firstCells_none w.drew size 0 0 0,by simp,λ_ h=>by cases h⟩,.nil⟩
  ·cases hu with
   | @sle ad c=>
    cases h2;refine ⟨[],⟨hk,λ_=>rfl,?_,?_,by simp,λ_ h=>by cases h⟩,.nil⟩<;>
     (cases ad with
      |none=>exact run_firstCells_none _ size 0 0 c
      |some a=>exact run_firstCells_some _ size 0 a 0 c [] (by simp) (by simp))
 cases hu with
 |str s=>
  let ⟨h1,h2⟩:=ba (show aT (ku size 1) (V (s.size,HZ s)) G=V q from hs);cases h2;have:=(beq_iff _ _).1 h1;subst this;refine ⟨byteCells s,⟨hk,λ_=>rfl,firstCells_string s w,firstCells_string s w.drew,by rw[byteCells_length,GU],λu hu=>by
   obtain ⟨_,_,rfl⟩:=dM.1 hu;rfl⟩,Qi s⟩
 |_=>exact row hs
def Fw (hE:fJ E g) (h:HR g f w) (hn:g.O new=G) {ie:TI} (ht:E.P.underlying t=V (.slice e)) (hie:E.ty.get e=V ie) (pN:nN ie=M) {m:Nat} {olds news:fG} {old xs:bc} (ho:hY g olds old) (hol:olds.length=n*ie.size) (hold:(ab7 ie.size n (.slice base n c)).run E.P w.drew= .ok olds.toArray w.drew) (hs:Src E.P ie.size tx u m news w) (hx:hY g news xs) (hgr:c<n+m) (h1:n<=1000000) (h2:m<=1000000):
  ∃r w' g',(aa8 #[t,tx] ty #[.slice base n c,u]).run E.P w= .ok r w'/\hZ g f w (.sl new 0 (n+m) (.u e)) [(new,V (.cells e (old++xs)))] new r g' w':=by
 have hT:=hE.ty e ie hie;let ⟨it,z,q1,q2,_,_,q5,_⟩:=hT.info;let ⟨_,_,z3,z4,z5⟩:=E3 (g:=g) hT q1 q5 pN 0;have qK:=run_append_grow_src (P:=E.P) w t tx ty e it z ht q1 q5 base n c olds (by rw[q2];exact hold) u m news (by rw[q2];exact hs) hgr (by omega) (growslice_fits hgr (by
  have:(n+m)*it.bytes<=2000000*65536:=Nat.mul_le_mul (by omega) z4
  omega))
 have hge:=grownCap_ge w (n+m) c e;have Bv:=hs.newsLen;refine ⟨_,_,_,qK,h.row hn (w0:=w.drew) (l:=grownCap w (n+m) c e*ie.size) ⟨rfl,rfl,rfl,rfl⟩ rfl (ho.append hx) (λj v hv=> ?_) ?_ ?_⟩
 ·rw[Lf,Ld]
  ·exact hv
  ·simpa using (bO.1 hv).1
 ·simp only[Array.size_append,List.size_toArray,gy,size_zeroCells,z5,hol,Bv];rw[<-fW,<-fW];exact js _ (by omega)
 ·exact .sl (id:=new) (off:=0) (o:=0) (b:=w.heap.size) (cap:=.u e) (Gh.jZ _ _ _ _ _) hge (λk hk=>by cases hk) (λe' he=>by
   cases he;refine ⟨Gh.Dl _ _ _ _ _,?_⟩;rw[Gh.Aq];show 0+grownCap w (n+m) c e*g.sz e<=_;rw[hE.size hie];omega)
def GJ (ht:P.underlying t=V (.slice e)) (hi:P.info? e=V it) (vE:n<=c) (hs:Src P it.size tx u 0 [] w):
  (aa8 #[t,tx] ty #[.slice base n c,u]).run P w= .ok (.slice base n c) w:=by
 have hc:=hs.cells;rcases hs.kind with ⟨e',hk⟩|hk<;>cases base<;>simp[aa8,run_underlying ht,run_underlying hk,sizeOf,typeInfo,hi,hs.len,vE,hc,storeCells]
def Qj (ht:P.underlying t=V (.slice e)) (hi:P.info? e=V it) {b m:Nat} {news:fG} (hs:Src P it.size tx u m news w) (nv:n+m<=c) (kH:(storeCells ⟨b,o+n*it.size,G⟩ news 0).run P w= .ok () w'):
  (aa8 #[t,tx] ty #[.slice (V ⟨b,o,G⟩) n c,u]).run P w= .ok (.slice (V ⟨b,o,G⟩) (n+m) c) w':=by
 rcases hs.kind with ⟨e',hk⟩|hk<;>simp[aa8,run_underlying ht,run_underlying hk,sizeOf,typeInfo,hi,hs.len,nv,hs.cells,add_lit,kH]
def aHL (hE:fJ E g) {ix:TI} (By:E.ty.get tx=V ix) (hr:Jk ix.desc=M):(∃e',E.P.underlying tx=V (.slice e'))\/E.P.underlying tx=V .string:=by
 have hd:=(hE.ty tx ix By).desc;generalize ix.desc=D at hd hr;cases D<;>simp[Jk] at hr
 ·exact .inr hd
 ·exact .inl ⟨_,hd⟩
def axs {x:SV} (h:L6 x=M):(∃i o n c,x= .sl i o n c)\/x= .cq\/x= .sle:=by
 cases x<;>first|exact .inl ⟨_,_,_,_,rfl⟩|exact .inr (.inl rfl)|exact .inr (.inr rfl)|cases h
def hZ.kill (h:HR g f w) {id:Nat} {v:SV} {us:gO} {g':Gh} (hp:hZ g (jn f (id,G)) w v us new r g' w'):hZ g f w v ((id,G)::us) new r g' w':=
 ⟨hp.val,hp.hr,(h.kill id).2.trans hp.fr,hp.ro,λD9=>by cases D9⟩
def ahh (hE:fJ E g) (h:HR g f w) (hn:g.O new=G) {ix:TI} {s x:SV} (h1:VR g u1 s) (h2:VR g u2 x) (By:E.ty.get tx=V ix) (B6:Jk ix.desc=M) {v:SV} {us:gO} (gw:pZ E f new t s x=V (v,us)):∃r w' g',(aa8 #[t,tx] ty #[u1,u2]).run E.P w= .ok r w'/\hZ g f w v us new r g' w':=by
 let ⟨i,hi,ho⟩:=aq gw;let ⟨e,he,ho⟩:=aq ho;let ⟨ie,hie,ho⟩:=aq (show az (E.ty.get e) _=V (v,us) from ho);let ⟨pN,ho⟩:=ba ho;let ⟨q,hq,ho⟩:=aq ho;let ⟨hq1,ho⟩:=ba ho;have hq1:q.1<=1000000:=(bR _ _).1 hq1;have ht:=(hE.ty t i hi).desc;rw[uB he] at ht;have ht:E.P.underlying t=V (.slice e):=ht;have hT:=hE.ty e ie hie;let ⟨it,z,q1,q2,_,_,q5,_⟩:=hT.info;let ⟨_,_,z3,z4,z5⟩:=E3 (g:=g) hT q1 q5 pN 0;let ⟨news,hs,hx⟩:=azI (aHL hE By B6) h h2 hq;rw[cE] at ho;split at ho
 ·rename_i h0;have h0:=(beq_iff _ _).1 h0;let ⟨HK,ho⟩:=ba ho;cases ho;have Bv:=hs.newsLen;rw[h0] at hs Bv;have:news= []:=v8 (by simpa using Bv)
  subst this;rw[<-q2] at hs;rcases axs HK with ⟨id,off,n,cp,rfl⟩|rfl|rfl
  ·cases h1 with
   |sl hρ vE jr vF=>exact ⟨_,w,g,GJ ht q1 vE hs,hZ.same h (.sl hρ vE jr vF)⟩
  ·cases h1;exact ⟨_,w,g,GJ ht q1 (de _) hs,hZ.same h .cq⟩
  ·cases h1;exact ⟨_,w,g,GJ ht q1 (uq _) hs,hZ.same h .sle⟩
 ·rename_i h0;have h0:q.1≠0:=λe=>h0 ((beq_iff _ _).2 e)
  cases h1 with
  |cq=>
   cases (show V (SV.sl new 0 q.1 (.u e),[(new,V (SO.cells e q.2))])=V (v,us) from ho);have:=Fw hE h hn (ty:=ty) (n:=0) (c:=0) (base:=G) (olds:= []) (old:= []) ht hie pN .nil (by simp) (run_firstCells_none _ _ _ _ _) hs hx (by omega) (by omega) hq1
   simpa using this
  | @sl id off n b o c cap hρ vE jr vF=>
   let ⟨zr,ho⟩:=ba (show aT (kQ n 1000000) (aT (aqp n q.1 cap) (az (mj f id off (B' n ie.size)) λold=>CD new e (wW n q.1) (old++q.2) []) (cC (mh (f id)) (mj f id off (B' n ie.size)) λp old=>abb new e ie.size id off n cap q.1 q.2 p old)) G=V (v,us) from ho)
   have zr:n<=1000000:=(bR _ _).1 zr;rw[cE] at ho;split at ho
   ·rename_i Ml;let ⟨old,hold,ho2⟩:=aq ho;obtain ⟨x0,e',cs',r1,r1',r2,rfl⟩:=yZ hold;have HL:=(h.at r1 hρ).2;let ⟨vs,v1,v2,v3⟩:=OR.gA HL r1' r2;have S6:(ab7 ie.size n (.slice (V ⟨b,o+off,G⟩) n c)).run E.P w.drew= .ok vs.toArray w.drew:=
     run_firstCells_some w.drew ie.size n _ n c vs v1 (λj v hv=>by rw[add_lit];simpa using v3 j v hv)
    cases cap with
    |u e0=>cases Ml
    |k c0=>
     have hc0:=jr c0 rfl;subst hc0;have hgr:c<n+q.1:=(bR _ _).1 Ml;cases ho2;exact Fw hE h hn ht hie pN v2 v1 S6 hs hx hgr zr hq1
   ·let ⟨p,old,hp,hold,ho⟩:=bU ho;have hf:=rS hp;obtain ⟨x0,e',cs',r1,r1',r2,rfl⟩:=yZ hold;rw[hf] at r1;cases r1;cases r1';have oS:Cells g w id b o p.1 p.2:=(h.at hf hρ).2;let ⟨vs,v1,v2,v3⟩:=oS.gA off (n*ie.size) r2;have S6:(ab7 ie.size n (.slice (V ⟨b,o+off,G⟩) n c)).run E.P w.drew= .ok vs.toArray w.drew:=
     run_firstCells_some w.drew ie.size n _ n c vs v1 (λj v hv=>by rw[add_lit];simpa using v3 j v hv)
    have grow:c<n+q.1->∃r w' g',(aa8 #[t,tx] ty #[.slice (V ⟨b,o+off,G⟩) n c,u2]).run E.P w= .ok r w'/\hZ g f w (.sl new 0 (n+q.1) (.u e)) [(new,V (.cells e ((p.2.drop off).take (n*ie.size)++q.2)))] new r g' w':=
     λhgr=>Fw hE h hn ht hie pN v2 v1 S6 hs hx hgr zr hq1
    have hxl:q.2.length=q.1*ie.size:=by rw[<-hx.length];exact hs.newsLen
    cases cap with
    |k c0=>
     have hc0:=jr c0 rfl;subst hc0;have ho:aT (kQ (wW n q.1) c)
      (aT (kQ (wW off (B' (wW n q.1) ie.size)) p.2.length) (V (SV.sl id off (wW n q.1) (.k c),[(id,V (SO.cells p.1 (eB p.2 (wW off (B' n ie.size)) q.2)))])) G)
      (CD new e (wW n q.1) ((p.2.drop off).take (n*ie.size)++q.2) [])=V (v,us):=ho
     rw[cE] at ho;split at ho
     ·rename_i hle;have hle:n+q.1<=c:=(bR _ _).1 hle;let ⟨Ee,ho⟩:=ba ho;have Ee:off+(n+q.1)*ie.size<=p.2.length:=(bR _ _).1 Ee;cases ho;let ⟨w',s1,s2,s3,s4,s5,s6,s7⟩:=oS.store (P:=E.P) (off:=off+n*ie.size) hx (by rw[hxl];rw[fW] at Ee;omega)
      let ⟨t1,t2⟩:=h.write (o':=.cells p.1 (eB p.2 (off+n*ie.size) q.2)) hf hρ s3 s4 s2 s5 s6 s7;refine ⟨_,w',g,Qj ht q1 (by rw[q2];exact hs) hle (by rw[q2,gD];exact s1),⟨?_,t1,t2,λ_ _=>rfl,λ_=>rfl⟩⟩
      exact .sl hρ hle jr (λe he=>by cases he)
     ·rename_i hle;have hle:¬n+q.1<=c:=λe=>hle ((bR _ _).2 e)
      cases ho;exact grow (by omega)
    |u e0=>
     let ⟨l1,l2⟩:=vF e0 rfl;let ⟨hc,ho⟩:=ba (show aT (kQ (wW off (B' n ie.size)) p.2.length&&ku e p.1) (CD new e (wW n q.1) ((p.2.drop off).take (n*ie.size)++q.2) [(id,G)]) G=V (v,us) from ho);cases ho;rw[bG] at hc;have sR:off+n*ie.size<=p.2.length:=(bR _ _).1 hc.1;have Co:e=p.1:=(beq_iff _ _).1 hc.2;have he0:e0=e:=by rw[<-l1,oS.et,Co]
     subst he0;rw[hE.size hie] at l2;by_cases hle:n+q.1<=c
     ·let ⟨⟨cur,m1,m0,vs0,m2,m3⟩,m4⟩:=oS;have nv:o+(off+n*ie.size)+news.length<=cur.size:=by
       have:=js ie.size hle;rw[hs.newsLen];rw[fW] at this;omega
      have qK:=run_storeCells_at E.P b (o+(off+n*ie.size)) p.1 news 0 cur w m1 (by omega) hs.one
      simp only[nH] at qK;have hol:=v1;have HL:OR (g.bind new (b,o+off) (g.lim id-off) e0) (w.setRow b (cur.toList.take (o+(off+n*ie.size))++news++cur.toList.drop (o+(off+n*ie.size)+news.length)).toArray) new b (o+off) (.cells e0 ((p.2.drop off).take (n*ie.size)++q.2)):=by
       refine ⟨⟨(cur.toList.take (o+(off+n*ie.size))++news++cur.toList.drop (o+(off+n*ie.size)+news.length)).toArray,?_,?_,vs++news,(v2.append hx).mono (Gh.HF hn),λj v hv=> ?_⟩,Gh.Dl _ _ _ _ _⟩
       ·rw[Co];exact setRow_heap w b cur _ p.1 _ m1
       ·rw[Gh.Aq];simp;omega
       ·rw[Ld,Cy (by simp;omega)]
        by_cases hj:j<n*ie.size
        ·rw[pd (by omega)] at hv
         rw[aC (by omega)]
         have:=v3 j v hv;rw[vM m1] at this;simpa using this
        ·have gn:j<vs.length+news.length:=by have:=(bO.1 hv).1;simpa using this
         rw[nF (by omega)] at hv
         rw[aG (by omega),<-hv]
         congr 1;omega
      let ⟨t1,t2⟩:=h.rename (o':=.cells e0 ((p.2.drop off).take (n*ie.size)++q.2)) hn hf hρ (by simp) (λk hk=>setRow_other w b k _ hk) HL rfl rfl rfl
      refine ⟨_,_,_,Qj ht q1 (by rw[q2];exact hs) hle (by rw[q2,gD];exact qK),⟨?_,t1,t2,λk hk=>Gh.mn _ _ _ _ hk,λD9=>by cases D9⟩⟩
      exact .sl (id:=new) (off:=0) (o:=o+off) (b:=b) (cap:=.u e0) (Gh.jZ _ _ _ _ _) hle (λk hk=>by cases hk) (λe' he=>by
       cases he;refine ⟨Gh.Dl _ _ _ _ _,?_⟩;rw[Gh.Aq];show 0+c*g.sz e0<=_;rw[hE.size hie];omega)
     ·let ⟨k1,_⟩:=h.kill id;let ⟨r,w',g',a1,a2⟩:=Fw hE k1 hn (ty:=ty) ht hie pN v2 v1 S6 hs hx (by omega) zr hq1
      exact ⟨r,w',g',a1,a2.kill h⟩
  |_=>cases ho
end
end Go.bM
namespace Go.bM
open Go.RowKit Go.MapKept
variable {P:J5} {u u1 u2:C'} {n new nt:Nat} {t ty:pJ} {ts:List pJ} {k:O'} {ok Cl mx:Bool} {J:Type} {a:Act}
section
variable {E:Env} {g:Gh} {f:Hf} {w:World}
variable {u3:C'}
def auO {size:Nat} (h:HR g f w) {x:SV} (hu:VR g u x) {q:Nat×bc} (hs:oK f size x=V q) (hn:n<=q.1):
  (Builtin.lenOf u).run P w= .ok q.1 w/\∃news,(ab7 size n u).run P w= .ok news.toArray w/\hY g news (q.2.take (n*size))/\news.length=n*size:=by
 have row:Bg f size x=V q->(Builtin.lenOf u).run P w= .ok q.1 w/\∃news,(ab7 size n u).run P w= .ok news.toArray w/\hY g news (q.2.take (n*size))/\news.length=n*size:=by
  intro hs;let ⟨m,xs,h1,h2,h3⟩:=bU hs;cases h3;have hn:n<=m:=hn;rcases Fk h1 with ⟨id,off,c,rfl⟩|⟨rfl,rfl⟩|⟨rfl,rfl⟩
  ·cases hu with
   | @sl _ _ _ b o c' _ hρ vE jr vF=>
    obtain ⟨x0,e,cs,q1,q1',q2,rfl⟩:=yZ (show mj f id off (m*size)=V xs from h2);have hle:n*size<=m*size:=js _ hn;let ⟨vs0,v10,v20,v30⟩:=OR.gA (h.at q1 hρ).2 q1' q2;obtain ⟨vs,v1,v2,v3⟩:∃vs:fG,vs.length=n*size/\hY g vs ((cs.drop off).take (n*size))/\∀j v,vs[j]? =V v->w.cell? ⟨b,o+off+j,G⟩=V v:=by
     refine ⟨vs0.take (n*size),by rw[dz];omega,?_,λj v hv=> ?_⟩
     ·have:=v20.take (n*size);rwa[l6,fo hle] at this
     ·rw[eZ] at hv;split at hv
      ·exact v30 j v hv
      ·cases hv
    refine ⟨rfl,vs,run_firstCells_some w size n _ m c' vs v1 (λj v hv=>by rw[add_lit];exact v3 j v hv),?_,v1⟩
    rw[l6,fo hle];exact v2
  ·cases hu;cases h2;have:n=0:=by omega
   subst this;exact ⟨rfl,[],run_firstCells_none w size 0 0 0,by simpa using .nil,by simp⟩
  ·cases hu with
   | @sle ad c=>
    cases h2;have:n=0:=by omega
    subst this;refine ⟨rfl,[],?_,by simpa using .nil,by simp⟩
    cases ad with
    |none=>exact run_firstCells_none _ size 0 0 c
    |some a=>exact run_firstCells_some _ size 0 a 0 c [] (by simp) (by simp)
 cases hu with
 |str s=>
  let ⟨h1,h2⟩:=ba (show aT (ku size 1) (V (s.size,HZ s)) G=V q from hs);cases h2;have:=(beq_iff _ _).1 h1;subst this;have hn:n<=s.size:=hn;refine ⟨rfl,(byteCells s).take n,?_,by rw[GU];exact (Qi s).take n,by rw[dz,byteCells_length,GU];omega⟩
  simp[ab7,byteCells];apply A4;simp[vm]
 |_=>exact row hs
def aqS (hE:fJ E g) (h:HR g f w) {d s:SV} (h1:VR g u1 d) (h2:VR g u2 s) {v:SV} {us:gO} (gw:AP E f t d s=V (v,us)):∃r w',(aa5 (t::ts).toArray ty #[u1,u2]).run E.P w= .ok r w'/\hZ g f w v us new r g w':=by
 let ⟨i,hi,ho⟩:=aq gw;let ⟨e,he,ho⟩:=aq ho;let ⟨ie,hie,ho⟩:=aq (show az (E.ty.get e) _=V (v,us) from ho);let ⟨pN,ho⟩:=ba ho;let ⟨nd,q,Fs,hq,ho⟩:=bU ho;have ht:=(hE.ty t i hi).desc;rw[uB he] at ht;have ht:E.P.underlying t=V (.slice e):=ht;have oA:=oZ (hE.ty e ie hie);have hmin:aT (kQ q.1 nd) q.1 nd=Nat.min q.1 nd:=by
  rw[cE];split
  ·rename_i hc;exact (fo ((bR _ _).1 hc)).symm
  ·rename_i hc;have:¬q.1<=nd:=λe=>hc ((bR _ _).2 e)
   exact (We (by omega)).symm
 have hle:Nat.min q.1 nd<=q.1:=Nat.min_le_left _ _;have hle2:Nat.min q.1 nd<=nd:=Nat.min_le_right _ _;have ho:Et d f ie.size (aT (kQ q.1 nd) q.1 nd) q.2=V (v,us):=ho;rw[hmin] at ho;generalize hm:Nat.min q.1 nd=m at ho hle hle2;let ⟨hl,news,hc,hx,Bv⟩:=auO (P:=E.P) h h2 hq hle;have QY:VR g (goInt m) (.int .i64 (.lit (.ofNat m))):=.int _ _ (by simp[SI.ev])
 rcases Fk Fs with ⟨id,off,cp,rfl⟩|⟨rfl,rfl⟩|⟨rfl,rfl⟩
 ·cases h1 with
  | @sl _ _ _ b o c' _ hρ vE jr vF=>
   let ⟨p,hp,ho⟩:=aq (show az (mh (f id)) (λp=>aT (kQ (wW off (B' m ie.size)) p.2.length) (V (SV.int .i64 (.lit (.ofNat m)),[(id,V (SO.cells p.1 (eB p.2 off (q.2.take (B' m ie.size)))))])) G)=V (v,us) from ho)
   let ⟨Ee,ho⟩:=ba ho;cases ho;have Ee:off+m*ie.size<=p.2.length:=(bR _ _).1 Ee;have hf:=rS hp;have oS:Cells g w id b o p.1 p.2:=(h.at hf hρ).2;let ⟨w',s1,s2,s3,s4,s5,s6,s7⟩:=oS.store (P:=E.P) (off:=off) hx (by rw[<-hx.length,Bv];exact Ee)
   let ⟨t1,t2⟩:=h.write (o':=.cells p.1 (eB p.2 off (q.2.take (m*ie.size)))) hf hρ s3 s4 s2 s5 s6 s7;refine ⟨_,w',?_,⟨QY,t1,t2,λ_ _=>rfl,λ_=>rfl⟩⟩
   simp[aa5,run_underlying ht,hl,oA,hm,hc,s1]
 ·cases h1;have:m=0:=by omega
  subst this;cases (show V (SV.int .i64 (.lit (.ofNat 0)),([]:gO))=V (v,us) from ho);refine ⟨_,w,?_,hZ.same h QY⟩;simp[aa5,run_underlying ht,hl,oA,hm,hc]
 ·cases h1 with
  | @sle ad c=>
   have:m=0:=by omega
   subst this;cases (show V (SV.int .i64 (.lit (.ofNat 0)),([]:gO))=V (v,us) from ho);have hn0:news= []:=v8 (by simpa using Bv)
   subst hn0;refine ⟨_,w,?_,hZ.same h QY⟩;cases ad<;>simp[aa5,run_underlying ht,hl,oA,hm,hc,storeCells]
def kp.get:∀{ms:List aa0} {xs:ig},kp g ms xs->∀{j:Nat} {x:SV×SV×Nat},xs[j]? =V x->∃m,ms[j]? =V m/\asE g m x
 |_,_,.nil,_,_,h=>by simp at h
 |_,_,.cons hd ht,j,x,h=>by
  cases j with
  |zero=>simp at h;subst h;exact ⟨_,rfl,hd⟩
  |succ j=>simp at h;let ⟨m,a,b⟩:=ht.get h;exact ⟨m,by simpa using a,b⟩
def kp.length:∀{ms:List aa0} {xs:ig},kp g ms xs->ms.length=xs.length
 |_,_,.nil=>rfl
 |_,_,.cons _ ht=>by simp[ht.length]
def kp.append:∀{ms ns:List aa0} {xs ys:ig},kp g ms xs->kp g ns ys->kp g (ms++ns) (xs++ys)
 |_,_,_,_,.nil,k=>k
 |_,_,_,_,.cons hd ht,k=>.cons hd (ht.append k)
def kp.set:∀{ms:List aa0} {xs:ig},kp g ms xs->∀{m:aa0} {x:SV×SV×Nat},asE g m x->∀(j:Nat),kp g (ms.set j m) (xs.set j x)
 |_,_,.nil,_,_,_,j=>by simpa using .nil
 |_,_,.cons hd ht,_,_,h,0=>by simpa using .cons h ht
 |_,_,.cons hd ht,_,_,h,j+1=>by simpa using .cons hd (ht.set h j)
def Qa {k:SV} {D:UD} (hl:LX k D=M) (hd:Nb P t D) (hu:VR g u k):∃d,P.underlying t=V d/\IsKey d u/\
  (∀(y:SV) (b:Bool) (u':C'),sameKey k y=V b->VR g u' y->Instr.sameNow d u u'=V b/\(b=M->u'=u)):=by
 cases hu with
 |bool a=>
  obtain rfl:=afT (show OF D=M from hl);refine ⟨.bool,hd,trivial,λy b u' hs ud=> ?_⟩
  let ⟨p,q,h1,h2,h3⟩:=bU (show cC (ug (.bool a)) (ug y) (λa b=>V (a==b))=V b from hs)
  cases h1;obtain rfl:=AT h2;cases ud;cases h3;exact ⟨rfl,λe=>by
   have:a=q:=by simpa using e
   rw[this]⟩
 | @int k e n he=>
  have hl:(isLit e&&apO k D)=M:=hl;rw[bG] at hl;let ⟨hl1,HN⟩:=hl;obtain rfl:D= .int k:=by
   cases D with
   |int k'=>rw[ov HN]
   |_=>cases HN
  cases e with
  |lit n0=>
   subst he;refine ⟨.int k,hd,rfl,λy b u' hs ud=> ?_⟩
   let ⟨p,h1,h2⟩:=aq (show az (intOf y) (λp=>aT (ij k p.1) (aCK (.lit n) p.2) G)=V b from hs)
   let ⟨hk,h3⟩:=ba h2;have hk:=ov hk;obtain rfl:=tF h1;let ⟨pk,pe⟩:=p;simp only at hk h3 ud;subst hk;cases pe with
   |lit m=>
    cases ud with
    | @int _ _ m' e2=>
     subst e2;cases h3;rw[Dh];refine ⟨?_,λe=> ?_⟩
     ·simp only[Instr.sameNow,aw,SI.ev];congr 1
     ·have:n=m':=by simpa using e
      rw[this]
 |str s=>
  obtain rfl:=akL (show HG D=M from hl);refine ⟨.string,hd,trivial,λy b u' hs ud=> ?_⟩
  let ⟨p,q,h1,h2,h3⟩:=bU (show cC (strOf (.str s)) (strOf y) (λa b=>V (Gj a b))=V b from hs)
  cases h1;obtain rfl:=qZ h2;cases ud;cases h3;rw[xY];refine ⟨?_,λe=> ?_⟩
  ·simp only[Instr.sameNow];congr 1;rw[nJ,bytes_beq];simp
  ·have:s=q:=by simpa using e
   rw[this]
 |_=>cases hl
def JV {k:SV} {u:C'} {d:TypeDesc} (hk:∀(y:SV) (b:Bool) (u':C'),sameKey k y=V b->VR g u' y->Instr.sameNow d u u'=V b/\(b=M->u'=u)):
  ∀{ms:List aa0} {es:ig},kp g ms es->∀(i:Nat) (r:Z (Nat×SV×Nat)),rC k es i=V r->
   (r=G/\Instr.findNow d u ms i=V G)\/∃j x m,r=V (i+j,x.2.1,x.2.2)/\es[j]? =V x/\ms[j]? =V m/\m.key=u/\Instr.findNow d u ms i=V (V (i+j,m.val))
 |_,_,.nil,i,r,h=>by cases h;exact .inl ⟨rfl,rfl⟩
 |_,_,.cons (m:=m) (x:=x) (ms:=ms) (xs:=es) hd ht,i,r,h=>by
  unfold rC at h;cases hs:sameKey k x.1 with
  |none=>rw[hs] at h;cases h
  |some b=>
   rw[hs] at h;let ⟨h1,h2⟩:=hk x.1 b m.key hs hd.1;cases b with
   |true=>
    cases h;exact .inr ⟨0,x,m,rfl,rfl,rfl,h2 rfl,by simp[Instr.findNow,h1]⟩
   |false=>
    rcases JV hk ht (i+1) r h with ⟨q1,q2⟩|⟨j,y,m',q1,q2,q3,q4,q5⟩
    ·exact .inl ⟨q1,by simp[Instr.findNow,h1,q2]⟩
    ·refine .inr ⟨j+1,y,m',by rw[q1];congr 2;omega,by simpa using q2,by simpa using q3,q4,?_⟩
     simp[Instr.findNow,h1,q5];omega
def afH (hE:fJ E g) (h:HR g f w) {x k z:SV} (h1:VR g u1 x) (h2:VR g u2 k) (gw:wu E f t x k ok=V z):
  ∃r,(Instr.lookup t u1 u2 ok).run E.P w= .ok r w/\VR g r z:=by
 let ⟨i,hi,ho⟩:=aq gw;let ⟨q,hq,ho⟩:=aq ho;let ⟨ik,ie,hik,hie,ho⟩:=bU ho;let ⟨hl,ho⟩:=ba ho;let ⟨es,hes,ho⟩:=aq ho;let ⟨r,hr,ho⟩:=aq ho;have ht:=(hE.ty t i hi).desc;rw[LU hq] at ht;have ht:E.P.underlying t=V (.map q.1 q.2):=ht;let ⟨d,hd,Yx,aqb⟩:=Qa hl (hE.ty _ ik hik).desc h2;let ⟨zv,z1,z2,z3⟩:=aeN (hE.ty _ ie hie);have main:∀(ms:Array aa0),kp g ms.toList es->(Instr.checkKey ms.isEmpty 10000 q.1 u2).run E.P w= .ok () w/\∃a rv,(Instr.findKey q.1 u2 ms.toList).run E.P w= .ok a w/\VR g rv z/\
   ((a=G/\rv=if ok then Value.tuple #[zv,.bool I] else zv)\/∃j v,a=V (j,v)/\rv=if ok then Value.tuple #[v,.bool M] else v):=by
  intro ms hms;refine ⟨run_checkKey (P:=E.P) (w:=w) hd Yx ms.isEmpty 9999,?_⟩;rcases JV aqb hms 0 r hr with ⟨rfl,q2⟩|⟨j,y,m,rfl,q2,q3,q4,q5⟩
  ·let ⟨zz,hz,ho⟩:=aq (show az (je ie ie.zero 0) (λz=>V (okV ok z I))=V z from ho)
   cases ho;refine ⟨G,_,run_findKey (P:=E.P) (w:=w) hd q2,?_,.inl ⟨rfl,rfl⟩⟩;have:=apn (g:=g) z2 z3 hz;cases ok
   ·exact this
   ·exact .dr (.cons this (.cons (.bool I) .nil))
  ·let ⟨m',r1,r2⟩:=hms.get q2;rw[q3] at r1;obtain rfl:m=m':=by simpa using r1
   cases (show V (okV ok y.2.1 M)=V z from ho);refine ⟨_,_,run_findKey (P:=E.P) (w:=w) hd q5,?_,.inr ⟨_,_,rfl,rfl⟩⟩;cases ok
   ·exact r2.2.1
   ·exact .dr (.cons r2.2.1 (.cons (.bool M) .nil))
 cases h1 with
 |pC=>
  cases (show V ([]:ig)=V es from hes);let ⟨hck,a,rv,r1,r2,r3⟩:=main #[] .nil;refine ⟨rv,?_,r2⟩;rcases r3 with ⟨rfl,rfl⟩|⟨j,v,rfl,rfl⟩<;>simp only[Instr.lookup,D',run_underlying ht,E',I',hck,r1,z1]
 | @mp id b o hρ=>
  let ⟨p,hp,hes⟩:=aq (show az (kN (f id)) (λp=>V p.1)=V es from hes)
  cases hes;have hf:=Fi hp;let ⟨ms,m1,m2⟩:=(h.at hf hρ).2;let ⟨hck,a,rv,r1,r2,r3⟩:=main ms m2;refine ⟨rv,?_,r2⟩;rcases r3 with ⟨rfl,rfl⟩|⟨j,v,rfl,rfl⟩<;>simp only[Instr.lookup,D',run_underlying ht,E',I',ac5 m1,hck,r1,z1]
 |_=>cases hes
def Ze (hE:fJ E g) (h:HR g f w) {x k v:SV} (h1:VR g u1 x) (h2:VR g u2 k) (h3:VR g u3 v) {us:gO} (gw:BR E f t x k v=V us):
  ∃w',(Instr.mapUpdate t u1 u2 u3).run E.P w= .ok () w'/\HR g (gY f us) w'/\Fr g f w g (gY f us) w':=by
 let ⟨id,ji,ho⟩:=aq gw;let ⟨i,hi,ho⟩:=aq ho;let ⟨q,hq,ho⟩:=aq ho;let ⟨ik,p,hik,hp,ho⟩:=bU ho;let ⟨hl,ho⟩:=ba ho;let ⟨r,hr,ho⟩:=aq ho;cases ho;obtain rfl:=Zw ji;have ht:=(hE.ty t i hi).desc;rw[LU hq] at ht;have ht:E.P.underlying t=V (.map q.1 q.2):=ht;let ⟨d,hd,Yx,aqb⟩:=Qa hl (hE.ty _ ik hik).desc h2;have hf:=Fi hp;cases h1 with
 | @mp _ b o hρ=>
  let ⟨hb,ms,m1,m2⟩:=h.at hf hρ;have hck:=run_checkKey (P:=E.P) (w:=w) hd Yx I 9999;have fin:∀(Fg:Array aa0) (K3:ig) (c':Nat),kp g Fg.toList K3->HR g (jn f (id,V (.map K3 c'))) {w with heap:=w.heap.setIfInBounds b (.map Fg c')}/\Fr g f w g (jn f (id,V (.map K3 c'))) {w with heap:=w.heap.setIfInBounds b (.map Fg c')}:=by
   intro Fg K3 c' he;let ⟨s1,s2⟩:=heap_set (o':=Obj.map Fg c') m1;exact h.write hf hρ (by simp) (λk hk=>s2 k hk) ⟨Fg,s1,he⟩ rfl rfl rfl
  rcases JV aqb m2 0 r hr with ⟨rfl,q2⟩|⟨j,y,m,rfl,q2,q3,q4,q5⟩
  ·have hfk:=run_findKey (P:=E.P) (w:=w) hd q2;refine ⟨_,?_,fin (ms.push {key:=u2,val:=u3,born:=p.2}) (p.1++ [(k,v,p.2)]) (p.2+1) (by rw[Array.toList_push];exact m2.append (.cons ⟨h2,h3,rfl⟩ .nil))⟩
   simp only[Instr.mapUpdate,D',run_underlying ht,E',ac5 m1,hck,hfk];exact run_setObj_map _ m1
  ·have hfk:=run_findKey (P:=E.P) (w:=w) hd q5;let ⟨m',r1,r2⟩:=m2.get q2;rw[q3] at r1;obtain rfl:m=m':=by simpa using r1
   rw[cg] at hfk;have hmj:ms[j]? =V m:=by simpa using q3
   have hold:(((ms[j]?).map (·.key)).getD u2)=u2:=by rw[hmj];simpa using q4
   have Bw:(Instr.keyThatStays u2 u2).run E.P w= .ok u2 w:=by simp[Instr.keyThatStays,sameBits_self Yx]
   refine ⟨_,?_,fin (ms.modify j λe=>{e with key:=u2,val:=u3}) (p.1.set (0+j) (k,v,y.2.2)) p.2 ?_⟩
   ·simp only[Instr.mapUpdate,D',run_underlying ht,E',ac5 m1,hck,hfk,hold,Bw];exact run_setObj_map _ m1
   ·have:(ms.modify j λe=>{e with key:=u2,val:=u3}).toList=ms.toList.set j {m with key:=u2,val:=u3}:=by
     apply vV;intro n;rw[l5,Li,List.getElem?_set];by_cases hn:j=n
     ·subst hn;have dq:j<ms.size:=(oj.1 hmj).1;have nU:ms[j]=m:=(oj.1 hmj).2;simp[dq,nU]
     ·simp[hn]
    rw[this,cg];exact m2.set (m:={m with key:=u2,val:=u3}) (x:=(k,v,y.2.2)) ⟨h2,h3,r2.2.2⟩ j
end
section
variable {E:Env} {g:Gh} {f:Hf} {w:World}
def afq (hE:fJ E g) (h:HR g f w) (hn:g.O new=G) {x:SV} (hu:VR g u x) {v:SV} {us:gO} (gw:Ac E f new t x=V (v,us)):
  ∃r w' g',(Instr.range t u).run E.P w= .ok r w'/\hZ g f w v us new r g' w':=by
 let ⟨i,hi,ho⟩:=aq gw;let ⟨o,HM,ho⟩:=aq ho;cases ho;have ht:=(hE.ty t i hi).desc;have fin:∀(ob:Obj),(Instr.range t u).run E.P w= .ok (.pointer (V ⟨w.heap.size,0,G⟩)) (w.alloc ob)->OR (g.bind new (w.heap.size,0) 0 0) (w.alloc ob) new w.heap.size 0 o->
   ∃r w' g',(Instr.range t u).run E.P w= .ok r w'/\hZ g f w (.ptr new 0) [(new,V o)] new r g' w':=by
  intro ob qK HL;let ⟨r1,r2⟩:=h.alloc hn (o':=o) (w':=w.alloc ob) (l:=0) (e:=0) rfl HL;exact ⟨.pointer (V ⟨w.heap.size,0,G⟩),_,_,qK,⟨.ptr (o:=0) (off:=0) (Gh.jZ _ _ _ _ _),r1,r2,λid cQ=>Gh.mn _ _ _ _ cQ,λD9=>by cases D9⟩⟩
 generalize i.desc=D at ht HM;cases D with
 |string=>
  have ht:E.P.underlying t=V .string:=ht;let ⟨s,hs,HM⟩:=aq (show az (strOf x) (λs=>V (SO.pY s 0))=V o from HM)
  cases HM;obtain rfl:=qZ hs;cases hu;refine fin (.stringIter s 0) ?_ ⟨rfl,heap_alloc_new w _⟩;simp[Instr.range,run_underlying ht,newObj];rfl
 |map kt et=>
  have ht:E.P.underlying t=V (.map kt et):=ht;cases hu with
  |pC=>
   cases (show V (SO.mapIter G 0 [] 0)=V o from HM);refine fin (.mapIter G 0 #[] 0) ?_ ⟨rfl,G,#[],heap_alloc_new w _,rfl,rfl⟩;simp[Instr.range,run_underlying ht,newObj];rfl
  | @mp id b c hρ=>
   let ⟨p,hp,HM⟩:=aq (show az (kN (f id)) (λp=>V (SO.mapIter (V id) p.2 [] p.2))=V o from HM)
   cases HM;have hf:=Fi hp;let ⟨hb,ms,m1,m2⟩:=h.at hf hρ;have cQ:id≠new:=λe=>by subst e;rw[hn] at hρ;cases hρ
   refine fin (.mapIter (V b) p.2 #[] p.2) ?_ ⟨rfl,V b,#[],heap_alloc_new w _,rfl,b,c,rfl,by rw[Gh.mn _ _ _ _ cQ];exact hρ⟩
   simp[Instr.range,run_underlying ht,newObj,ac5 m1];rfl
  |_=>cases HM
 |_=>cases HM
def akB (hE:fJ E g) (h:HR g f w) {x:SV} (hu:VR g u x) {v:SV} {us:gO} (gw:DU f Cl x=V (v,us)):
  ∃r w',(Instr.next u Cl ty).run E.P w= .ok r w'/\hZ g f w v us new r g w':=by
 let ⟨hs,HM⟩:=ba gw;subst hs;let ⟨id,ji,ho2⟩:=aq HM;let ⟨p,hp,ho3⟩:=aq ho2;let ⟨q,hq,hid2⟩:=aq ji;let ⟨hz,hid3⟩:=ba hid2;cases hid3;have hz:=(beq_iff _ _).1 hz;obtain rfl:=rh hq;have hf:=apI hp;cases hu with
 | @ptr _ _ b o hρ=>
  obtain ⟨hb,rfl,m1⟩:=h.at hf hρ;rw[hz];have nU:(getObj b).run E.P w= .ok (.stringIter p.1 p.2) w:=by simp[getObj,Sem.run,m1]
  have ho:V (HB q.1 p)=V (v,us):=ho3;unfold HB at ho;rw[cE] at ho;split at ho
  ·rename_i dq;have dq:p.2<p.1.size:=(bR _ _).1 dq;cases ho;let ⟨s1,s2⟩:=heap_set (o':=Obj.stringIter p.1 (p.2+(Z' p.1 p.2).2)) m1;let ⟨t1,t2⟩:=h.write (o':=.pY p.1 (p.2+(Z' p.1 p.2).2)) (w':={w with heap:=w.heap.setIfInBounds b (.stringIter p.1 (p.2+(Z' p.1 p.2).2))}) hf hρ (by simp) (λk hk=>s2 k hk) ⟨rfl,s1⟩ rfl rfl rfl
   refine ⟨.tuple #[.bool M,goInt p.2,.int .i32 (Z' p.1 p.2).1],{w with heap:=w.heap.setIfInBounds b (.stringIter p.1 (p.2+(Z' p.1 p.2).2))},?_,⟨?_,t1,t2,λ_ _=>rfl,λ_=>rfl⟩⟩
   ·simp only[nH,Instr.next,D',nU,E',aG dq];simp[setObj,Sem.run,m1]
   ·exact .dr (.cons (.bool M) (.cons (.int _ _ (by simp[SI.ev])) (.cons (.int _ _ (by simp[SI.ev])) .nil)))
  ·rename_i dq;have dq:¬p.2<p.1.size:=λe=>dq ((bR _ _).2 e)
   cases ho;refine ⟨.tuple #[.bool I],w,?_,hZ.same h (.dr (.cons (.bool I) .nil))⟩;simp only[nH,Instr.next,D',nU,E',aC dq,I']
def awa (hE:fJ E g) (h:HR g f w) {i:TI} (hi:E.ty.get t=V i) {x z:SV} (hu:VR g u x) (gw:BZ i.desc x f=V z):∃r,(ab4 #[t] ty #[u]).run E.P w= .ok r w/\VR g r z:=by
 have hd:=(hE.ty t i hi).desc;have lit:∀n:Nat,VR g (goInt n) (wH n):=λn=>.int _ _ (by simp[SI.ev])
 generalize i.desc=D at hd gw;cases D with
 |string=>
  let ⟨s,hs,ho⟩:=aq (show az (strOf x) (λs=>V (wH s.size))=V z from gw)
  cases ho;obtain rfl:=qZ hs;cases hu;exact ⟨goInt s.size,by simp[ab4,run_underlying (show E.P.underlying t=V .string from hd)],lit _⟩
 |slice e=>
  let ⟨n,hn,ho⟩:=aq (show az (QN x) (λn=>V (wH n))=V z from gw)
  cases ho;have hd:E.P.underlying t=V (.slice e):=hd;rcases Fk hn with ⟨id,off,c,rfl⟩|⟨rfl,rfl⟩|⟨rfl,rfl⟩<;>cases hu<;>exact ⟨goInt _,by simp[ab4,run_underlying hd],lit _⟩
 |array n e=>
  cases (show V (wH n)=V z from gw);have hd:E.P.underlying t=V (.array n e):=hd;exact ⟨goInt n,by simp[ab4,run_underlying hd],lit _⟩
 |map k e=>
  have hd:E.P.underlying t=V (.map k e):=hd;cases hu with
  |pC=>
   cases (show V (wH 0)=V z from gw);exact ⟨goInt 0,by simp[ab4,run_underlying hd],lit _⟩
  | @mp id b o hρ=>
   let ⟨p,hp,ho⟩:=aq (show az (kN (f id)) (λp=>V (wH p.1.length))=V z from gw)
   cases ho;let ⟨hb,ms,m1,m2⟩:=h.at (Fi hp) hρ;refine ⟨goInt ms.size,by simp[ab4,run_underlying hd,ac5 m1],?_⟩
   have:=m2.length;rw[<-this];exact lit _
  |_=>cases gw
 |_=>cases gw
def Zx (hE:fJ E g) {x y z:SV} {v:C'} (hu:VR g u x) (hv:VR g v y) (gw:Yj E mx x y=V z) (ts:Array pJ) (ty:pJ):
  ∃r,((if mx then Builtin.max_ ts ty #[u,v] else Builtin.min_ ts ty #[u,v])).run E.P w= .ok r w/\VR g r z:=by
 let ⟨a,b,h1,h2,ho⟩:=bU gw;let ⟨r,hr,ho⟩:=aq ho;cases ho;obtain rfl:=tF h1;obtain rfl:=tF h2;cases hu with|int _ _ e1=>cases hv with|int _ _ e2=>
 subst e1;subst e2;cases mx with
 |true=>
  have:=Ae hE (show Fj E a.2 b.2=V r from hr);refine ⟨.int a.1 (if b.2.ev g.η>a.2.ev g.η then b.2.ev g.η else a.2.ev g.η),by simp[Builtin.max_,Builtin.max2],.int _ _ ?_⟩
  cases r with
  |true=>rw[aG (by simpa using this)]
  |false=>rw[aC (by simpa using this)]
 |false=>
  have:=Ae hE (show Fj E b.2 a.2=V r from hr);refine ⟨.int a.1 (if b.2.ev g.η<a.2.ev g.η then b.2.ev g.η else a.2.ev g.η),by simp[Builtin.min_,Builtin.min2],.int _ _ ?_⟩
  cases r with
  |true=>rw[aG (by simpa using this)]
  |false=>rw[aC (by simpa using this)]
def vI {l:List J} {p:J×J} (h:xG l=V p):l= [p.1,p.2]:=by
 unfold xG at h;split at h
 ·cases h;rfl
 ·cases h
def aOx (P:J5) (o:S') (a:Act) (w:World) (v:C') (w':World):Prop:=
 (execOp a.eval o).run P w= .ok (.value v) w'\/((execOp a.eval o).run P w= .ok .skip w'/\v=undef)
def LN (h:VR g u (.int k (.lit (.ofNat n)))):u= .int k (.ofNat n):=by
 cases h with
 |int _ _ e=>rw[e];rfl
def Kb {xs:Array J} {l:List J} (h:xs.toList=l):xs=l.toArray:=by apply A4;simpa using h
def He {us:fG} {x y:SV} (h:mZ g us [x,y]):∃u v,us= [u,v]/\VR g u x/\VR g v y:=by
 cases h with
 |cons h1 h=>cases h with
  |cons h2 h=>cases h;exact ⟨_,_,rfl,h1,h2⟩
def aGL {us:fG} {x:SV} (h:mZ g us [x]):∃u,us= [u]/\VR g u x:=by
 cases h with
 |cons h1 h=>cases h;exact ⟨_,rfl,h1⟩
def Ye (hE:fJ E g) (h:HR g f w) {tm:Tf} (jj:FR g nt tm a.tmps) (hn:g.O new=G) {b:Builtin} {args:Array Ew} {ts:Array pJ} {aa:bc} (has:gA tm args.toList=V aa) (ty:pJ) (cs:Array Bool) {v:SV} {us:gO} (gw:pM E f new b aa ts.toList=V (v,us)):∃r w' g',(builtin b ts ty cs (args.map a.eval)).run E.P w= .ok (.value r) w'/\hZ g f w v us new r g' w':=by
 have yi:=Ba jj has;have AO:args.map a.eval=(args.toList.map a.eval).toArray:=Kb (by simp)
 rw[AO];generalize args.toList.map a.eval=vs at yi;cases b with
 |len=>
  let ⟨x,t,h1,h2,ho⟩:=bU (show cC aa.head? ts.toList.head? (λx t=>aT (ku aa.length 1) (az (E.ty.get t) λi=>same (BZ i.desc x f)) G)=V (v,us) from gw)
  let ⟨hl,ho⟩:=ba ho;let ⟨i,hi,ho⟩:=aq ho;let ⟨z,hz,ho⟩:=aq ho;cases ho;have hl:=(beq_iff _ _).1 hl;obtain rfl:aa= [x]:=by
   cases aa with
   |nil=>simp at hl
   |cons y l=>simp at hl h1;simp[hl,h1]
  obtain ⟨u,rfl,hu⟩:=aGL yi;let ⟨r,r1,r2⟩:=awa (w:=w) (ty:=ty) hE h hi hu hz;refine ⟨r,w,g,?_,hZ.same h r2⟩;have ht:ts[0]? =V t:=by
   rw[<-l5];cases mH:ts.toList with
   |nil=>rw[mH] at h2;simp at h2
   |cons t' l=>rw[mH] at h2;simpa using h2
  have hl1:(ab4 ts ty #[u]).run E.P w=(ab4 #[t] ty #[u]).run E.P w:=by simp only[ab4,ht];rfl
  simp only[builtin,D'];rw[hl1,r1];rfl
 |append=>
  let ⟨p,q,h1,h2,ho⟩:=bU (show cC (xG aa) (xG ts.toList) (λp q=>az (E.ty.get q.2) λi=>aT (Jk i.desc) (pZ E f new q.1 p.1 p.2) G)=V (v,us) from gw)
  let ⟨i,hi,ho⟩:=aq ho;let ⟨hr,ho⟩:=ba ho;obtain rfl:=vI h1;obtain rfl:=Kb (vI h2);obtain ⟨u1,u2,rfl,k1,k2⟩:=He yi;let ⟨r,w',g',r1,r2⟩:=ahh (ty:=ty) hE h hn k1 k2 hi hr ho;exact ⟨r,w',g',by simp only[builtin,D'];rw[r1];rfl,r2⟩
 |copy=>
  let ⟨p,t,h1,h2,ho⟩:=bU (show cC (xG aa) ts.toList.head? (λp t=>AP E f t p.1 p.2)=V (v,us) from gw)
  obtain rfl:=vI h1;obtain ⟨u1,u2,rfl,k1,k2⟩:=He yi;cases mH:ts.toList with
  |nil=>rw[mH] at h2;simp at h2
  |cons t' l=>
   rw[mH] at h2;obtain rfl:t'=t:=by simpa using h2
   obtain rfl:=Kb mH;let ⟨r,w',r1,r2⟩:=aqS (new:=new) (ty:=ty) (ts:=l) hE h k1 k2 ho;exact ⟨r,w',g,by simp only[builtin,D'];rw[r1];rfl,r2⟩
 |min=>
  let ⟨p,h1,ho⟩:=aq (show az (xG aa) (λp=>same (Yj E I p.1 p.2))=V (v,us) from gw)
  let ⟨z,hz,ho⟩:=aq ho;cases ho;obtain rfl:=vI h1;obtain ⟨u1,u2,rfl,k1,k2⟩:=He yi;let ⟨r,r1,r2⟩:=Zx (w:=w) hE k1 k2 hz ts ty;refine ⟨r,w,g,?_,hZ.same h r2⟩;simp only[ax,au] at r1;simp only[builtin,D'];rw[r1];rfl
 |max=>
  let ⟨p,h1,ho⟩:=aq (show az (xG aa) (λp=>same (Yj E M p.1 p.2))=V (v,us) from gw)
  let ⟨z,hz,ho⟩:=aq ho;cases ho;obtain rfl:=vI h1;obtain ⟨u1,u2,rfl,k1,k2⟩:=He yi;let ⟨r,r1,r2⟩:=Zx (w:=w) hE k1 k2 hz ts ty;refine ⟨r,w,g,?_,hZ.same h r2⟩;simp only[aw] at r1;simp only[builtin,D'];rw[r1];rfl
 |_=>cases gw
end
end Go.bM
namespace Go.bM
open Go.RowKit
variable {new i nx:Nat} {o:S'} {x:Ew} {q:Nat×Nat} {t e:pJ} {k:FuncId} {ok Cl:Bool} {xs:List Ew} {D:Nat->Bool} {r u:C'} {K:Act->World->Prop} {w':World} {KE:Ending->World->Prop} {S:Nat->Prop} {dE:Array Bool} {ms:List aa0} {sa:Array Nat} {fn:Func} {rv:ab2}
section
variable {E:Env} {g:Gh} {f:Hf} {w:World}
def aAc (hE:fJ E g) (h:HR g f w) {nt:Nat} {tm:Tf} {a:Act} (jj:FR g nt tm a.tmps) (hn:g.O new=G) {v:SV} {us:gO} (gw:vu E o.op tm f new=V (v,us)):
  ∃r w' g',aOx E.P o a w r w'/\hZ g f w v us new r g' w':=by
 let ⟨dst,op,ty,pos,after,guard⟩:=o;have val:=λ{x:Ew} {y:SV} (hx:dB tm x=V y)=>s9 (g:=g) jj hx
 cases op with
 |move x=>
  let ⟨y,hy,ho⟩:=aq (show az (dB tm x) (λv=>V (v,([]:gO)))=V (v,us) from gw)
  cases ho;exact ⟨_,w,g,.inl rfl,hZ.same h (val hy)⟩
 |assign x=>
  let ⟨y,hy,ho⟩:=aq (show az (dB tm x) (λv=>V (v,([]:gO)))=V (v,us) from gw)
  cases ho;exact ⟨_,w,g,.inl rfl,hZ.same h (val hy)⟩
 |pick c x y=>
  let ⟨cv,hc,ho⟩:=aq (show az (dB tm c) (λv=>az (ug v) λb=>one tm (aT b x y) λv=>V (v,([]:gO)))=V (v,us) from gw)
  let ⟨b,hb,ho⟩:=aq ho;let ⟨z,hz,ho⟩:=aq ho;cases ho;obtain rfl:=AT hb;have hcv:a.eval c= .bool b:=by have:=val hc;generalize a.eval c=q at this;cases this;rfl
  refine ⟨if b then a.eval x else a.eval y,w,g,.inl ?_,hZ.same h ?_⟩
  ·simp only[execOp,hcv,asBool,D',I',E']
  ·cases b
   ·exact val hz
   ·exact val hz
 |alloc e=>
  let ⟨i,hi,ho⟩:=aq (show az (E.ty.get e) (λi=>V (SV.ptr new 0,[(new,V (SO.cells e i.zero))]))=V (v,us) from gw)
  cases ho;let ⟨z,z1,z2⟩:=aor (hE.ty e i hi);refine ⟨.pointer (V ⟨w.heap.size,0,G⟩),_,_,.inl ?_,h.row hn (w0:=w) (w':=w.alloc (.cells z.cells e)) (l:=0) ⟨rfl,rfl,rfl,rfl⟩ rfl (z2 g) (λj v hv=>by simpa using hv) (uq _) (.ptr (o:=0) (off:=0) (Gh.jZ _ _ _ _ _))⟩
  simp[execOp,Instr.alloc,z1,newVar,newRow]
 |box e x=>
  let ⟨y,hy,ho⟩:=aq (show az (dB tm x) (apr new e)=V (v,us) from gw);let ⟨cs,hc,ho⟩:=aq ho;cases ho;refine ⟨.pointer (V ⟨w.heap.size,0,G⟩),_,_,.inl ?_,h.row hn (w0:=w) (w':=w.alloc (.cells (a.eval x).cells e)) (l:=0) ⟨rfl,rfl,rfl,rfl⟩ rfl ((val hy).jD hc) (λj v hv=>by simpa using hv) (uq _) (.ptr (o:=0) (off:=0) (Gh.jZ _ _ _ _ _))⟩
  simp[execOp,Instr.box,newVar,newRow]
 |build t parts=>
  let ⟨jo,hpc,ho⟩:=aq (show az (ma tm parts.toList) (λjo=>same (MP E t jo))=V (v,us) from gw)
  let ⟨x,hx,ho⟩:=aq ho;cases ho;let ⟨hl,hpt⟩:=Gu jj parts.toList jo hpc;let ⟨r,r1,r2⟩:=akP hE (parts:=parts.map λ(i,x)=>(i,a.eval x)) hx (by simpa using hl) (λj i v i' xs h1 h2=>hpt j i v i' xs (by simpa using h1) h2) w
  exact ⟨r,w,g,.inl (by simp only[execOp,D',r1,E',I']),hZ.same h r2⟩
 |buildSlice t len parts=>
  let ⟨jo,hpc,ho⟩:=aq (show az (ma tm parts.toList) (λjo=>qb E new t len jo)=V (v,us) from gw)
  let ⟨r,w',g',r1,r2⟩:=P0 hE h hn jj hpc ho;exact ⟨r,w',g',.inl (by simp only[execOp,D',r1,E',I']),r2⟩
 |insert t m k x=>
  let ⟨y1,y2,h1,h2,ho⟩:=bU (show cC (dB tm m) (dB tm k) (λa b=>one tm x λc=>unit (BR E f t a b c))=V (v,us) from gw)
  let ⟨y3,h3,ho⟩:=aq ho;let ⟨us',hu,ho⟩:=aq ho;cases ho;let ⟨w',r1,r2,r3⟩:=Ze hE h (val h1) (val h2) (val h3) hu;exact ⟨undef,w',g,.inr ⟨by simp only[execOp,D',r1,E',I'],rfl⟩,⟨.dr .nil,r2,r3,λ_ _=>rfl,λ_=>rfl⟩⟩
 |mapUpdate t m k x=>
  let ⟨y1,y2,h1,h2,ho⟩:=bU (show cC (dB tm m) (dB tm k) (λa b=>one tm x λc=>unit (BR E f t a b c))=V (v,us) from gw)
  let ⟨y3,h3,ho⟩:=aq ho;let ⟨us',hu,ho⟩:=aq ho;cases ho;let ⟨w',r1,r2,r3⟩:=Ze hE h (val h1) (val h2) (val h3) hu;exact ⟨undef,w',g,.inr ⟨by simp only[execOp,D',r1,E',I'],rfl⟩,⟨.dr .nil,r2,r3,λ_ _=>rfl,λ_=>rfl⟩⟩
 |load t x=>
  let ⟨y,hy,ho⟩:=aq (show az (dB tm x) (λv=>same (rm E f t v))=V (v,us) from gw)
  let ⟨z,hz,ho⟩:=aq ho;cases ho;let ⟨r,r1,r2⟩:=SQ hE h (val hy) hz;exact ⟨r,w,g,.inl (by simp only[execOp,D',r1,E',I']),hZ.same h r2⟩
 |store t x y=>
  let ⟨y1,y2,h1,h2,ho⟩:=bU (show cC (dB tm x) (dB tm y) (λa v=>unit (wQ E f t v a))=V (v,us) from gw)
  let ⟨us',hu,ho⟩:=aq ho;cases ho;let ⟨w',r1,r2,r3⟩:=ako hE h (val h1) (val h2) hu;exact ⟨undef,w',g,.inr ⟨by simp only[execOp,D',r1,E',I'],rfl⟩,⟨.dr .nil,r2,r3,λ_ _=>rfl,λ_=>rfl⟩⟩
 |nilCheck x=>
  let ⟨y,hy,ho⟩:=aq (show az (dB tm x) (λv=>same (aaC v))=V (v,us) from gw)
  let ⟨z,hz,ho⟩:=aq ho;cases ho;obtain ⟨rfl,hk⟩:=aps hz;have hv:=val hy;refine ⟨a.eval x,w,g,.inl ?_,hZ.same h hv⟩;rcases hk with ⟨i,o,rfl⟩|⟨fn,c1,c2,rfl⟩<;>(generalize hq:a.eval x=q at hv;cases hv;simp only[execOp,hq,I'])
 |binOp op t x y yt=>
  let ⟨y1,y2,h1,h2,ho⟩:=bU (show cC (dB tm x) (dB tm y) (λv u=>same (Ri E op t x y v u))=V (v,us) from gw)
  let ⟨z,hz,ho⟩:=aq ho;cases ho;let ⟨r,r1,r2⟩:=ayb hE hz (val h1) (val h2) w;exact ⟨r,w,g,.inl (by simp only[execOp,D'] at r1 ⊢;rw[r1];rfl),hZ.same h r2⟩
 |unOp op t x=>
  let ⟨y,hy,ho⟩:=aq (show az (dB tm x) (λv=>same (unA op v))=V (v,us) from gw)
  let ⟨z,hz,ho⟩:=aq ho;cases ho;let ⟨r,r1,r2⟩:=azB hz (val hy) (P:=E.P) w;exact ⟨r,w,g,.inl (by simp only[execOp,D',r1,E',I']),hZ.same h r2⟩
 |convert s d x=>
  let ⟨y,hy,ho⟩:=aq (show az (dB tm x) (λv=>same (To E s d v))=V (v,us) from gw)
  let ⟨z,hz,ho⟩:=aq ho;cases ho;let ⟨r,r1,r2⟩:=aqU hE hz (val hy) w;exact ⟨r,w,g,.inl (by simp only[execOp,D',r1,E',I']),hZ.same h r2⟩
 |makeFunc fn first j5=>
  let ⟨pN,ho⟩:=ba (show aT (afu fn) (cC (gA tm first.toList) (gA tm j5.toList) λl m=>V (SV.fn fn l m,([]:gO))) G=V (v,us) from gw)
  let ⟨l,m,h1,h2,ho⟩:=bU ho;cases ho;cases fn with
  |func k=>
   refine ⟨.func (.func k) (first.map a.eval) (j5.map a.eval),w,g,.inl ?_,hZ.same h (.fn ?_ ?_)⟩
   ·simp[execOp,Instr.makeFunc]
   ·simpa using Ba jj h1
   ·simpa using Ba jj h2
  |_=>cases pN
 |makeMap t r=>
  have mk:∀(hv:v= .mp new) (hu:us= [(new,V (.map [] 0))]),∃g',hZ g f w v us new (.map (V w.heap.size)) g' (w.alloc (.map #[] 0)):=by
   rintro rfl rfl;let ⟨r1,r2⟩:=h.alloc hn (o':=.map [] 0) (w':=w.alloc (.map #[] 0)) (l:=0) (e:=0) rfl ⟨#[],heap_alloc_new w _,.nil⟩;exact ⟨_,.mp (o:=0) (Gh.jZ _ _ _ _ _),r1,r2,λid cQ=>Gh.mn _ _ _ _ cQ,λD9=>by cases D9⟩
  cases r with
  |none=>
   cases (show V (SV.mp new,[(new,V (SO.map [] 0))])=V (v,us) from gw);let ⟨g',q⟩:=mk rfl rfl;refine ⟨_,_,g',.inl ?_,q⟩;simp[execOp,Instr.makeMap,newObj];rfl
  |some x=>
   let ⟨i,y,hi,hy,ho⟩:=bU (show cC (E.ty.get t) (dB tm x) (λi v=>cC (Gv i.desc) (oP v) λ_ _=>afB new)=V (v,us) from gw)
   let ⟨q,n,hq,ags,ho⟩:=bU ho;cases ho;let ⟨g',p⟩:=mk rfl rfl;obtain ⟨k,rfl⟩:=wm ags;have hx:=LN (val hy);have ht:=(hE.ty t i hi).desc;rw[LU hq] at ht;have ht:E.P.underlying t=V (.map q.1 q.2):=ht;refine ⟨_,_,g',.inl ?_,p⟩;simp[execOp,Instr.makeMap,newObj,run_underlying ht,hx,asInt];rfl
 |makeSlice t l c=>
  let ⟨y1,y2,h1,h2,ho⟩:=bU (show cC (dB tm l) (dB tm c) (λu v=>cC (oP u) (oP v) (Hy E new t))=V (v,us) from gw)
  let ⟨n1,n2,k1,k2,ho⟩:=bU ho;obtain ⟨q1,rfl⟩:=wm k1;obtain ⟨q2,rfl⟩:=wm k2;have e1:=LN (val h1);have e2:=LN (val h2);let ⟨r,w',g',r1,r2⟩:=akC (kl:=q1) (kc:=q2) hE h hn ho;exact ⟨r,w',g',.inl (by simp only[execOp,D',e1,e2,r1,E',I']),r2⟩
 |slice t x lo hi mx=>
  let ⟨y,hy,ho⟩:=aq (show az (dB tm x) (λv=>vd (mc tm lo) (mc tm hi) (mc tm mx) λl u m=>same (Hm E t v l u m))=V (v,us) from gw)
  let ⟨l,u,m,h1,h2,h3,ho⟩:=CM ho;let ⟨z,hz,ho⟩:=aq ho;cases ho;let ⟨r,r1,r2⟩:=akr (w:=w) hE jj (val hy) h1 h2 h3 hz;exact ⟨r,w,g,.inl (by simp only[execOp,D',r1,E',I']),hZ.same h r2⟩
 |fieldAddr s x k=>
  let ⟨y,hy,ho⟩:=aq (show az (dB tm x) (rK E s k)=V (v,us) from gw);let ⟨r,r1,r2⟩:=QF (new:=new) hE h (val hy) ho;exact ⟨r,w,g,.inl (by simp only[execOp,D',r1,E',I']),r2⟩
 |field t x k=>
  let ⟨y,hy,ho⟩:=aq (show az (dB tm x) (De E t k)=V (v,us) from gw);let ⟨r,r1,r2⟩:=aft (new:=new) hE h (val hy) ho;exact ⟨r,w,g,.inl (by simp only[execOp,D',r1,E',I']),r2⟩
 |indexAddr t x ix=>
  let ⟨y1,y2,h1,h2,ho⟩:=bU (show cC (dB tm x) (dB tm ix) (λv u=>az (oP u) λk=>same (rp E t v k))=V (v,us) from gw)
  let ⟨n,ags,ho⟩:=aq ho;let ⟨z,hz,ho⟩:=aq ho;cases ho;obtain ⟨q,rfl⟩:=wm ags;have e2:=LN (val h2);let ⟨r,r1,r2⟩:=S5 (w:=w) (kk:=q) hE (val h1) hz;exact ⟨r,w,g,.inl (by simp only[execOp,D',e2,r1,E',I']),hZ.same h r2⟩
 |index t x ix=>
  let ⟨y1,y2,h1,h2,ho⟩:=bU (show cC (dB tm x) (dB tm ix) (λv u=>az (oP u) λk=>Ad E t k v)=V (v,us) from gw)
  let ⟨n,ags,ho⟩:=aq ho;obtain ⟨q,rfl⟩:=wm ags;have e2:=LN (val h2);let ⟨r,r1,r2⟩:=afs (new:=new) (kk:=q) hE h (val h1) ho;exact ⟨r,w,g,.inl (by simp only[execOp,D',e2,r1,E',I']),r2⟩
 |lookup t x k ok=>
  let ⟨y1,y2,h1,h2,ho⟩:=bU (show cC (dB tm x) (dB tm k) (λa b=>same (wu E f t a b ok))=V (v,us) from gw)
  let ⟨z,hz,ho⟩:=aq ho;cases ho;let ⟨r,r1,r2⟩:=afH hE h (val h1) (val h2) hz;exact ⟨r,w,g,.inl (by simp only[execOp,D',r1,E',I']),hZ.same h r2⟩
 |range t x=>
  let ⟨y,hy,ho⟩:=aq (show az (dB tm x) (Ac E f new t)=V (v,us) from gw);let ⟨r,w',g',r1,r2⟩:=afq hE h hn (val hy) ho;exact ⟨r,w',g',.inl (by simp only[execOp,D',r1,E',I']),r2⟩
 |next it Cl=>
  let ⟨y,hy,ho⟩:=aq (show az (dB tm it) (DU f Cl)=V (v,us) from gw);let ⟨r,w',r1,r2⟩:=akB (new:=new) (ty:=ty) hE h (val hy) ho;exact ⟨r,w',g,.inl (by simp only[execOp,D',r1,E',I']),r2⟩
 |extract x i=>
  let ⟨y,hy,ho⟩:=aq (show az (dB tm x) (λv=>az (RW v) λvs=>same (vs[i]?))=V (v,us) from gw)
  let ⟨vs,yi,ho⟩:=aq ho;let ⟨z,hz,ho⟩:=aq ho;cases ho;obtain rfl:=aoD yi;have hv:=val hy;generalize hq:a.eval x=q at hv;cases hv with
  |dr hr=>
   let ⟨u,u1,u2⟩:=hr.get hz;refine ⟨u,w,g,.inl ?_,hZ.same h u2⟩;simp only[execOp,hq,Instr.extract];rw[l5] at u1;rw[u1];rfl
 |call c=>
  have ho:tY E tm f new c=V (v,us):=gw;unfold tY at ho;split at ho
  ·rename_i b hb;let ⟨aa,has,ho⟩:=aq ho;let ⟨r,w',g',r1,r2⟩:=Ye hE h jj hn (ts:=c.argTypes) has ty (c.args.map fun| .const _=>M|_=>I) ho
   refine ⟨r,w',g',.inl ?_,r2⟩;simp only[execOp,resolve,hb,D',I',E',invoke];exact r1
  ·cases ho
 |_=>cases gw
end
section
variable {E:Env} {g:Gh} {f f':Hf} {w:World} {T T':Tf}
def aoy (h:∀t,x= .tmp t->T t=T' t):dB T x=dB T' x:=by
 cases x with
 |tmp t=>exact h t rfl
 |_=>rfl
def yA:∀{xs:List Ew},(∀x∈xs,dB T x=dB T' x)->gA T xs=gA T' xs
 | [],_=>rfl
 |x::xs,h=>by
  show cC (dB T x) (gA T xs) _=cC (dB T' x) (gA T' xs) _;rw[h x (by simp),yA λy hy=>h y (by simp[hy])]
def DR:∀{ps:List (Nat×Ew)},(∀p∈ps,dB T p.2=dB T' p.2)->ma T ps=ma T' ps
 | [],_=>rfl
 |p::ps,h=>by
  show az (dB T p.2) (λv=>cC v.cells (ma T ps) _)=az (dB T' p.2) (λv=>cC v.cells (ma T' ps) _)
  rw[h p (by simp),DR λq hq=>h q (by simp[hq])]
def DT {x:Z Ew} (h:∀y,x=V y->dB T y=dB T' y):mc T x=mc T' x:=by
 cases x with
 |none=>rfl
 |some y=>
  show az (dB T y) _=az (dB T' y) _;rw[h y rfl]
def QS {v:SV} (h:xj v=V q):q.1∈ln (V v):=by
 rw[rh h];simp[ln]
def akG {v:SV} (h:∀id∈ln (V v),f id=f' id):rm E f t v=rm E f' t v:=by
 unfold rm;cases hp:xj v with
 |none=>rfl
 |some q=>
  show az (E.ty.get t) (λi=>az (jD (f q.1) q.2 (wide i)) _)=az (E.ty.get t) (λi=>az (jD (f' q.1) q.2 (wide i)) _)
  rw[h _ (QS hp)]
def acZ {v a:SV} (h:∀id∈ln (V a),f id=f' id):wQ E f t v a=wQ E f' t v a:=by
 unfold wQ;cases hp:xj a with
 |none=>rfl
 |some q=>
  show vd (E.ty.get t) v.cells (mh (f q.1)) _=vd (E.ty.get t) v.cells (mh (f' q.1)) _;rw[h _ (QS hp)]
def agN {x:SV} (h:∀id∈ln (V x),f id=f' id):agO x f=agO x f':=by
 cases x<;>first|rfl|(rename_i id;show az (kN (f id)) _=az (kN (f' id)) _;rw[h id (by simp[ln])])
def aam {x k:SV} (h:∀id∈ln (V x),f id=f' id):wu E f t x k ok=wu E f' t x k ok:=by
 unfold wu;rw[agN h]
def RV {x k v:SV} (h:∀id∈ln (V x),f id=f' id):BR E f t x k v=BR E f' t x k v:=by
 unfold BR;cases hp:aAg x with
 |none=>rfl
 |some id=>
  have:=Zw hp;subst this;show az (E.ty.get t) (λi=>az (Gv i.desc) λq=>cC (E.ty.get q.1) (kN (f id)) _)=az (E.ty.get t) (λi=>az (Gv i.desc) λq=>cC (E.ty.get q.1) (kN (f' id)) _)
  rw[h id (by simp[ln])]
def aal {x:SV} (h:∀id∈ln (V x),f id=f' id):Ac E f new t x=Ac E f' new t x:=by
 have e:∀D:UD,Hu D x f=Hu D x f':=by
  intro D;cases D<;>first|rfl|skip
  cases x<;>first|rfl|(rename_i id;show az (kN (f id)) _=az (kN (f' id)) _;rw[h id (by simp[ln])])
 unfold Ac;simp only[e]
def afr {x:SV} (h:∀id∈ln (V x),f id=f' id):DU f Cl x=DU f' Cl x:=by
 unfold DU;cases hp:akS x with
 |none=>rfl
 |some id=>
  let ⟨q,h1,h2⟩:=aq hp;let ⟨_,h2⟩:=ba h2;cases h2;show aT Cl (az (OE (f q.1)) _) G=aT Cl (az (OE (f' q.1)) _) G;rw[h _ (QS h1)]
def K4 {id off n:Nat} (h:f id=f' id):mj f id off n=mj f' id off n:=by unfold mj;rw[h]
def P4 {size:Nat} {x:SV} (h:∀id∈ln (V x),f id=f' id):oK f size x=oK f' size x:=by
 cases x<;>first
  |rfl
  |(
   rename_i id off n c
   have e:rowOf (.sl id off n c) f size=rowOf (.sl id off n c) f' size:=K4 (h id (by simp[ln]))
   show Bg f size (.sl id off n c)=Bg f' size (.sl id off n c)
   unfold Bg
   rw[e])
def akR {s:SV} {size m:Nat} {xs:bc} (h:∀id∈ln (V s),f id=f' id):si s f new e size m xs=si s f' new e size m xs:=by
 cases s<;>first
  |rfl
  |(
   rename_i id off n c
   show OX f new e size m xs id off n c=OX f' new e size m xs id off n c
   unfold OX
   rw[h id (by simp[ln]),K4 (h id (by simp[ln]))])
def aap {s x:SV} (h1:∀id∈ln (V s),f id=f' id) (h2:∀id∈ln (V x),f id=f' id):pZ E f new t s x=pZ E f' new t s x:=by
 unfold pZ OW;have e1:∀size,oK f size x=oK f' size x:=λsize=>P4 h2
 have e2:∀e size m xs,si s f new e size m xs=si s f' new e size m xs:=λe size m xs=>akR h1
 simp only[e1,e2]
def agV {d:SV} {size n:Nat} {xs:bc} (h:∀id∈ln (V d),f id=f' id):Et d f size n xs=Et d f' size n xs:=by
 cases d<;>first
  |rfl
  |(
   rename_i id off m c
   show HW f size n xs id off=HW f' size n xs id off
   unfold HW
   rw[h id (by simp[ln])])
def akO {d s:SV} (h1:∀id∈ln (V d),f id=f' id) (h2:∀id∈ln (V s),f id=f' id):AP E f t d s=AP E f' t d s:=by
 unfold AP aqR;have e1:∀size,oK f size s=oK f' size s:=λsize=>P4 h2
 have e2:∀size m xs,Et d f size m xs=Et d f' size m xs:=λsize m xs=>agV h1
 simp only[e1,e2]
def apD {D:UD} {x:SV} (h:∀id∈ln (V x),f id=f' id):BZ D x f=BZ D x f':=by
 cases D<;>first
  |rfl
  |(
   show aAn x f=aAn x f'
   cases x<;>first|rfl|(rename_i id;show az (kN (f id)) _=az (kN (f' id)) _;rw[h id (by simp[ln])]))
def vz (hx:x∈xs) {id:Nat} (h:id∈ln (dB T x)):id∈qx T xs:=by
 induction xs with
 |nil=>simp at hx
 |cons y ys ih=>
  show id∈ln (dB T y)++qx T ys;rw[eV];rcases da.1 hx with rfl|hx
  ·exact .inl h
  ·exact .inr (ih hx)
def agd:∀{xs:List Ew} {aa:bc},gA T xs=V aa->∀a∈aa,∀id∈ln (V a),id∈qx T xs
 | [],aa,h,a,ha,_,_=>by cases h;simp at ha
 |x::xs,aa,h,a,ha,id,ji=>by
  let ⟨v,l,h1,h2,h3⟩:=bU h;cases h3;show id∈ln (dB T x)++qx T xs;rw[eV];rcases da.1 ha with rfl|ha
  ·rw[h1];exact .inl ji
  ·exact .inr (agd h2 a ha id ji)
def ZA:∀{xs:List Ew} {aa:bc},gA T xs=V aa->∀a∈aa,∀id∈idM (V a),id∈JG T xs
 | [],aa,h,a,ha,id,ji=>by
  have h:V []=V aa:=h;cases h;cases ha
 |x::xs,aa,h,a,ha,id,ji=>by
  let ⟨v,l,h1,h2,h3⟩:=bU (show cC (dB T x) (gA T xs) (λv l=>V (v::l))=V aa from h)
  cases h3;show id∈idM (dB T x)++JG T xs;rcases da.1 ha with e|ha
  ·rw[h1,<-e];exact gX _ ji
  ·exact jb _ (ZA h2 a ha id ji)
def aJZ (b:Builtin):Bool:=match b with| .len=>M|_=>I
def akH {D:UD} {x:SV} (h:∀id∈idM (V x),f id=f' id):BZ D x f=BZ D x f':=by
 cases x<;>first|exact apD h|(cases D<;>rfl)
def avP {op:Op} (hT:∀x∈op.operands.toList,dB T x=dB T' x) (hf:∀id∈Oq op T,f id=f' id):vu E op T f new=vu E op T' f' new:=by
 have tZ:∀(x:Ew) (k:SV->gG),x∈op.operands.toList->one T x k=one T' x k:=λx k hx=>by unfold one;rw[hT x hx]
 have Lo:∀(x y:Ew) (k:SV->SV->gG),x∈op.operands.toList->y∈op.operands.toList->two T x y k=two T' x y k:=λx y k hx hy=>by unfold two;rw[hT x hx,hT y hy]
 have Yf:∀(x:Ew) (k k':SV->gG),x∈op.operands.toList->(∀v,dB T x=V v->k v=k' v)->one T x k=one T' x k':=λx k k' hx hk=>by
  rw[<-tZ x k' hx];unfold one;cases hv:dB T x with
  |none=>rfl
  |some v=>exact hk v hv
 have aoB:∀(x y:Ew) (k k':SV->SV->gG),x∈op.operands.toList->y∈op.operands.toList->(∀v u,dB T x=V v->dB T y=V u->k v u=k' v u)->two T x y k=two T' x y k':=λx y k k' hx hy hk=>by
  rw[<-Lo x y k' hx hy];unfold two;cases hv:dB T x with
  |none=>rfl
  |some v=>
   cases hu:dB T y with
   |none=>rfl
   |some u=>exact hk v u hv hu
 cases op with
 |move x=>exact tZ x _ (by simp[J'])
 |assign x=>exact tZ x _ (by simp[J'])
 |pick c x y=>
  show az (dB T c) (λv=>az (ug v) λb=>one T (aT b x y) _)=az (dB T' c) (λv=>az (ug v) λb=>one T' (aT b x y) _)
  rw[hT c (by simp[J'])]
  congr 1;funext v;congr 1;funext b;cases b
  ·exact tZ y _ (by simp[J'])
  ·exact tZ x _ (by simp[J'])
 |alloc e=>rfl
 |box e x=>exact tZ x _ (by simp[J'])
 |build t ps=>
  show az (ma T ps.toList) _=az (ma T' ps.toList) _;rw[DR λp hp=>hT p.2 (by simp[J'];exact ⟨p.1,by simpa using hp⟩)]
 |buildSlice t n ps=>
  show az (ma T ps.toList) _=az (ma T' ps.toList) _;rw[DR λp hp=>hT p.2 (by simp[J'];exact ⟨p.1,by simpa using hp⟩)]
 |insert t m k x=>
  refine aoB m k _ _ (by simp[J']) (by simp[J']) λv u hv hu=>Yf x _ _ (by simp[J']) λc hc=> ?_
  rw[RV λid ji=>hf id (vz (xs:= [m,k,x]) (x:=m) (by simp) (by rw[hv];exact ji))]
 |mapUpdate t m k x=>
  refine aoB m k _ _ (by simp[J']) (by simp[J']) λv u hv hu=>Yf x _ _ (by simp[J']) λc hc=> ?_
  rw[RV λid ji=>hf id (vz (xs:= [m,k,x]) (x:=m) (by simp) (by rw[hv];exact ji))]
 |load t x=>
  refine Yf x _ _ (by simp[J']) λv hv=> ?_
  rw[akG λid ji=>hf id (vz (xs:= [x]) (x:=x) (by simp) (by rw[hv];exact ji))]
 |store t x y=>
  refine aoB x y _ _ (by simp[J']) (by simp[J']) λv u hv hu=> ?_
  rw[acZ λid ji=>hf id (vz (xs:= [x,y]) (x:=x) (by simp) (by rw[hv];exact ji))]
 |nilCheck x=>exact tZ x _ (by simp[J'])
 |binOp op t x y yt=>exact Lo x y _ (by simp[J']) (by simp[J'])
 |unOp op t x=>exact tZ x _ (by simp[J'])
 |convert s d x=>exact tZ x _ (by simp[J'])
 |makeFunc fn a c=>
  show aT (afu fn) (cC (gA T a.toList) (gA T c.toList) _) G=aT (afu fn) (cC (gA T' a.toList) (gA T' c.toList) _) G;rw[yA λx hx=>hT x (by simp[J'];exact .inl (by simpa using hx)),yA λx hx=>hT x (by simp[J'];exact .inr (by simpa using hx))]
 |makeMap t r=>
  cases r with
  |none=>rfl
  |some x=>
   show cC (E.ty.get t) (dB T x) _=cC (E.ty.get t) (dB T' x) _;rw[hT x (by simp[J'])]
 |makeSlice t l c=>exact Lo l c _ (by simp[J']) (by simp[J'])
 |slice t x lo hi mx=>
  refine Yf x _ _ (by simp[J']) λv hv=> ?_
  rw[DT (x:=lo) λy hy=>hT y (by subst hy;simp[J']),DT (x:=hi) λy hy=>hT y (by subst hy;simp[J']),DT (x:=mx) λy hy=>hT y (by subst hy;simp[J'])]
 |fieldAddr s x k=>exact tZ x _ (by simp[J'])
 |field t x k=>exact tZ x _ (by simp[J'])
 |indexAddr t x ix=>exact Lo x ix _ (by simp[J']) (by simp[J'])
 |index t x ix=>exact Lo x ix _ (by simp[J']) (by simp[J'])
 |lookup t x k ok=>
  refine aoB x k _ _ (by simp[J']) (by simp[J']) λv u hv hu=> ?_
  rw[aam λid ji=>hf id (vz (xs:= [x,k]) (x:=x) (by simp) (by rw[hv];exact ji))]
 |range t x=>
  refine Yf x _ _ (by simp[J']) λv hv=> ?_
  exact aal λid ji=>hf id (vz (xs:= [x]) (x:=x) (by simp) (by rw[hv];exact ji))
 |next it Cl=>
  refine Yf it _ _ (by simp[J']) λv hv=> ?_
  exact afr λid ji=>hf id (vz (xs:= [it]) (x:=it) (by simp) (by rw[hv];exact ji))
 |extract x i=>exact tZ x _ (by simp[J'])
 |call c=>
  show tY E T f new c=tY E T' f' new c;unfold tY;split
  ·rename_i b hb;have ev:gA T c.args.toList=gA T' c.args.toList:=yA λx hx=>hT x (by simp[J',Call.operands,hb];simpa using hx)
   rw[<-ev];cases hv:gA T c.args.toList with
   |none=>rfl
   |some aa=>
    have hid0:vC c=I->∀a∈aa,∀id∈ln (V a),f id=f' id:=λhl a ha id h=>hf id (by
     show id∈aT (vC c) (JG T c.args.toList) (qx T c.args.toList);rw[hl];exact agd hv a ha id h)
    have hidM:vC c=M->∀a∈aa,∀id∈idM (V a),f id=f' id:=λhl a ha id h=>hf id (by
     show id∈aT (vC c) (JG T c.args.toList) (qx T c.args.toList);rw[hl];exact ZA hv a ha id h)
    have aAp:vC c=aJZ b:=by unfold vC;rw[hb];cases b<;>rfl
    show pM E f new b aa _=pM E f' new b aa _;have e1:vC c=I->∀t p,xG aa=V p->pZ E f new t p.1 p.2=pZ E f' new t p.1 p.2:=λhl t p h1=>by
     have ji:=hid0 hl;have hp:=vI h1;exact aap (ji p.1 (by rw[hp];simp)) (ji p.2 (by rw[hp];simp))
    have e2:vC c=I->∀t p,xG aa=V p->AP E f t p.1 p.2=AP E f' t p.1 p.2:=λhl t p h1=>by
     have ji:=hid0 hl;have hp:=vI h1;exact akO (ji p.1 (by rw[hp];simp)) (ji p.2 (by rw[hp];simp))
    have e3:vC c=M->∀D x,aa.head? =V x->BZ D x f=BZ D x f':=λhl D x h1=>akH (hidM hl x (List.mem_of_head? h1))
    unfold pM;cases b<;>(first|(have e1:=e1 aAp;have e2:=e2 aAp)|(have e3:=e3 aAp))<;>first
     |rfl
     |(
      simp only
      generalize hq:xG aa=q at e1 e2
      cases q with
      |none=>rfl
      |some p=>first|(simp only[cC,e1 _ p rfl];done)|(simp only[cC,e2 _ p rfl];done))
     |(
      simp only
      generalize hq:aa.head? =q at e3
      cases q with
      |none=>rfl
      |some p=>simp only[cC,e3 _ p rfl])
  ·rfl
 |_=>rfl
end
section
variable {E:Env} {g:Gh} {f:Hf} {w:World}
variable {Q:Exit->Act->World->Prop} {nx':Nat}
def wC (ro:cD):Fence:={fn:=λ_=>True,depth:=G,alive:=I,round:=ro}
def eG (T:Tf) (d:cD) (v:SV):Tf:=λt=>if d=V t then V v else T t
def aBB {nt d:Nat} (h:mX nt (V d)=M):d<nt:=(bR _ _).1 h
def FR.put {nt:Nat} {T:Tf} {a:Act} (h:FR g nt T a.tmps) {d:cD} (hd:mX nt d=M) {v:SV} (hv:VR g r v):FR g nt (eG T d v) (a.put d r).tmps:=by
 cases d with
 |none=>
  refine ⟨h.sz,λt x hx=>h.tm t x ?_⟩
  simpa[eG] using hx
 |some d=>
  have dq:=aBB hd;refine ⟨by simpa[Act.put] using h.sz,λt x hx=> ?_⟩
  simp only[eG,V8] at hx;show VR g ((a.tmps.setIfInBounds d r).getD t undef) x;simp only[uv,acJ];split at hx
  ·rename_i e;subst e;obtain rfl:v=x:=by simpa using hx
   have:d<a.tmps.size:=by rw[h.sz];exact dq
   simpa[this] using hv
  ·rename_i e;rw[aC e];have:=h.tm t x hx;simpa[uv] using this
def put_defers (a:Act) (d:cD) (r:C'):(a.put d r).defers=a.defers:=by cases d<;>rfl
def Fb:∀(l:nu) (j:Nat),LM l j=(l[j]?).bind (·.dst)
 | [],j=>by simp;rfl
 |o::l,0=>rfl
 |o::l,j+1=>by
  show LM l j=_;rw[Fb l j];simp
def AB {nt:Nat} {T:Tf} {a:Act} (h:FR g nt T a.tmps) {all:eP} {b:Bool} (hw:j0 all.toList o T=V b):ac0 o (yielded all a.tmps)=b:=by
 unfold j0 at hw;unfold ac0;cases hg:o.guard with
 |none=>rw[hg] at hw;cases hw;rfl
 |some p=>
  let ⟨j,want⟩:=p;rw[hg] at hw;have hw:xP all.toList T j want=V b:=hw;unfold xP at hw;rw[Fb,l5] at hw;simp only[yielded];cases hd:(all[j]?).bind (·.dst) with
  |none=>
   rw[hd] at hw;cases hw;simp
  |some t=>
   rw[hd] at hw;let ⟨x,hx,hw⟩:=aq (show az (T t) (aox want)=V b from hw);have hv:=h.tm t x hx;simp only[ak];rw[uv] at hv;cases ht:a.tmps[t]? with
   |none=>
    rw[ht] at hv;simp only[NL] at hv;have hu:(undef:C')= .tuple #[]:=rfl;rw[hu] at hv;cases hv with
    |dr _=>cases hw;rfl
    |undef _=>cases hw
   |some u=>
    rw[ht] at hv;simp only[CZ] at hv;cases hv<;>first
     |(cases hw;rfl)
     |(rename_i c;cases hw;cases c<;>cases want<;>rfl)
     |cases hw
def rM (D:Nat->Bool) (H f:Hf):Hf:=λx=>if D x=M then H x else f x
def TL (E:Env) (ro:cD) (nt:Nat) (all:eP) (i:Nat) (o:S') (T:Tf) (need:Nat->Prop) (H:Hf) (frp newp:Nat->Prop) (v:SV) (D:Nat->Bool) (H':Hf):Prop:=
 ∀(m:Nat) (g:Gh) (f:Hf) (T1:Tf) (a:Act) (w:World) (K:Act->World->Prop) (Q:Exit->Act->World->Prop),fJ E g->FR g nt T1 a.tmps->HR g f w->(∀t∈o.looksAt all,T1 t=T t)->(∀x,need x->f x=H x)->(∀x,frp x->g.O x=G)->
  (∀r w' g',FR g' nt (eG T1 o.dst v) (a.put o.dst r).tmps->HR g' (rM D H' f) w'->Fr g f w g' (rM D H' f) w'->(∀x,¬newp x->g'.O x=g.O x)->K (a.put o.dst r) w')->
  wpOpIn (wC ro) m E.P all Q i K a w
def KW {all:eP} {T T1:Tf} (h:∀t∈o.looksAt all,T1 t=T t):∀x∈o.op.operands.toList,dB T1 x=dB T x:=λx hx=>aoy λt ht=>h t (by
 subst ht;exact gX _ (GZ.2 ⟨.tmp t,hx,rfl⟩))
def BQ {all:eP} {T T1:Tf} (h:∀t∈o.looksAt all,T1 t=T t):j0 all.toList o T1=j0 all.toList o T:=by
 unfold j0;cases hg:o.guard with
 |none=>rfl
 |some p=>
  show xP all.toList T1 p.1 p.2=xP all.toList T p.1 p.2;unfold xP;rw[Fb,l5];cases hd:(all[p.1]?).bind (·.dst) with
  |none=>rfl
  |some t=>
   show az (T1 t) _=az (T t) _;rw[h t (by simp[Oper.looksAt,hg,hd])]
def Dx:∀(us:gO) (H f:Hf) (x:Nat),gY f us x=if x∈us.map (·.1) then gY H us x else f x
 | [],H,f,x=>by simp[gY]
 |u::us,H,f,x=>by
  show gY (jn f u) us x=if x∈(u::us).map (·.1) then gY (jn H u) us x else f x
  rw[Dx us (jn H u) (jn f u) x];by_cases h1:x∈us.map (·.1)
  ·rw[aG h1,aG (by simp at h1 ⊢;exact .inr h1)]
  ·rw[aC h1];by_cases h2:x=u.1
   ·rw[aG (by simp[h2])]
    rw[Dx us (jn f u) (jn H u) x,aC h1];simp[jn,h2]
   ·rw[aC (by simp at h1 ⊢;exact ⟨h2,h1⟩)]
    simp[jn,h2]
def CP {ro:cD} {a:Act} (P:J5) (w:World):∀k,o.about P w a.eval=V k->(wC ro).fn k:=λ_ _=>trivial
def akp {ro:cD} {nt:Nat} {all:eP} {T:Tf} {H:Hf} {v:SV} {us:gO} (hi:all[i]? =V o) (hw:j0 all.toList o T=V M) (hd:mX nt o.dst=M) (ho:vu E o.op T H new=V (v,us)) (hH:H new=G) (hD:∀x,D x=M↔(x∈us.map (·.1)\/x=new)) (Fs:∀c,o.op≠ .defer c):
  TL E ro nt all i o T (λx=>x∈Oq o.op T) H (λx=>x=new) (λx=>x=new/\us≠ []) v D (gY H us):=by
 intro m g f T1 a w K Q hE jj hr hT JN qL hk;have e1:vu E o.op T1 f new=V (v,us):=by
  rw[<-ho];refine (avP (λx hx=>(KW hT x hx).symm) (λid ji=>(JN id ji).symm)).symm
 have hn:=qL new rfl;let ⟨r,w',g',qK,hp⟩:=aAc hE hr jj hn e1;have QZ:gY f us=rM D (gY H us) f:=by
  funext x;unfold rM;rw[Dx us H f x];by_cases h1:x∈us.map (·.1)
  ·rw[aG h1,aG ((hD x).2 (.inl h1))]
  ·rw[aC h1];by_cases h2:x=new
   ·rw[aG ((hD x).2 (.inr h2)),Dx us f H x,aC h1,h2,hH,hr.Hz hn]
   ·rw[aC (λh=>by rcases (hD x).1 h with h|h;exact h1 h;exact h2 h)]
 have hkk:=hk r w' g' ((jj.mono hp.fr.le).put hd hp.val) (QZ ▸ hp.hr) (QZ ▸ hp.fr) (λx hx=>by
  by_cases hu:us= []
  ·rw[hp.nil hu]
  ·exact hp.ro x (λhe=>hx ⟨he,hu⟩))
 unfold wpOpIn;rw[hi];simp only;rw[aG (AB jj (by rw[BQ hT];exact hw))]
 refine ⟨CP E.P w,?_⟩;rw[Oper.semAt_eq _ _ _ Fs];rcases qK with h1|⟨h1,rfl⟩
 ·rw[h1];exact hkk
 ·rw[h1];exact hkk
def step_skip {ro:cD} {nt:Nat} {all:eP} {T:Tf} {H:Hf} (hi:all[i]? =V o) (hw:j0 all.toList o T=V I) (hd:mX nt o.dst=M) (hH:H new=G) (hD:∀x,D x=M↔x=new):
  TL E ro nt all i o T (λ_=>False) H (λx=>x=new) (λ_=>False) (.dr []) D H:=by
 intro m g f T1 a w K Q hE jj hr hT JN qL hk;have hn:=qL new rfl;have QZ:f=rM D H f:=by
  funext x;unfold rM;by_cases h2:x=new
  ·rw[aG ((hD x).2 h2),h2,hH,hr.Hz hn]
  ·rw[aC (λh=>h2 ((hD x).1 h))]
 have hkk:=hk undef w g (jj.put hd (.dr .nil)) (QZ ▸ hr) (QZ ▸ Fr.refl g f w) (λ_ _=>rfl)
 unfold wpOpIn;rw[hi];simp only;have hwn:=AB jj (by rw[BQ hT];exact hw)
 rw[aC (by rw[hwn];simp)]
 exact ⟨CP E.P w,hkk⟩
def TU (P : J5) (m : Nat) (u : C') (us : jw) (w : World) (K : Ending -> World -> Prop) : Prop :=
  ∃ d, (Deferred.ofValue u us).run P w = .ok d w /\
    ((∃ k aa, (invoke d.target d.args).run P w = .ok (.enter k aa) w /\ CallsIn aa7 m P k aa w K) \/
      (∃ l k tmps aa bo, (invoke d.target d.args).run P w = .ok (.round l k tmps aa bo) w /\ RoundIn aa7 m P l k tmps aa bo w K) \/
      (∃ r w', (invoke d.target d.args).run P w = .ok (.value r) w' /\ K (.returned r) w'))
def TU.mono {P:J5} {m:Nat} {us:jw} {w:World} {K K':Ending->World->Prop} (h:TU P m u us w K) (hk:∀e w',K e w'->K' e w'):TU P m u us w K':=by
 let ⟨d,h1,h2⟩:=h;refine ⟨d,h1,?_⟩;rcases h2 with ⟨k,aa,q1,q2⟩|⟨l,k,t,aa,bo,q1,q2⟩|⟨r,w',q1,q2⟩
 ·exact .inl ⟨k,aa,q1,CallsIn.mono q2 hk⟩
 ·exact .inr (.inl ⟨l,k,t,aa,bo,q1,RoundIn.mono q2 hk⟩)
 ·exact .inr (.inr ⟨r,w',q1,hk _ _ q2⟩)
def aaS (zp:Bool) (u:C'):Ending:=if zp=M then .panicked [{v:=u,recovered:=I}] else .returned u
def qW (E:Env) (zp:Bool) (fv:SV) (aa:bc) (H:Hf) (nx:Nat) (v:SV) (H':Hf) (nx':Nat):Prop:=
 ∀(m:Nat) (g:Gh) (w:World) (u:C') (us:fG),fJ E g->HR g H w->(∀x,nx<=x->g.O x=G)->VR g u fv->mZ g us aa->
  TU E.P m u us.toArray w λe w'=>∃r,e=aaS zp r/\∃g',VR g' r v/\HR g' H' w'/\Fr g H w g' H' w'/\(∀x,x<nx->g'.O x=g.O x)/\∀x,nx'<=x->g'.O x=G
def aqq {H H':Hf} {g':Gh} (hr:HR g f w) (Gz:∀x o,H x=V o->f x=V o) (agu:∀x,nx<=x->g.O x=G) (lA:HR g' H' w') (hf:Fr g H w g' H' w') (Bs:∀x,x<nx->g'.O x=g.O x) (hD:∀x,D x=I->x<nx->H' x=H x) (hD2:∀x,D x=I->nx<=x->H' x=G):HR g' (rM D H' f) w'/\Fr g f w g' (rM D H' f) w':=by
 have Mm:∀x,nx<=x->f x=G:=λx hx=>hr.Hz (agu x hx)
 have other:∀x o,D x=I->f x=V o->H x=G->∃b c,g.O x=V (b,c)/\b<w.heap.size/\OR g w x b c o/\¬arU g H b:=by
  intro x o hd hx hn;let ⟨b,c,q1,q2,q3⟩:=hr.ob x o hx;refine ⟨b,c,q1,q2,q3,λ⟨id,o',c',h1,h2⟩=> ?_⟩
  have:=hr.inj id x o' o b c' c (Gz id o' h1) hx h2 q1;subst this;rw[hn] at h1;simp at h1
 have Oz:∀x o,f x=V o->x<nx:=λx o hx=>by
  by_cases h:nx<=x
  ·rw[Mm x h] at hx;simp at hx
  ·omega
 have cls:∀x o,rM D H' f x=V o->H' x=V o\/(D x=I/\f x=V o/\H x=G):=by
  intro x o hx;unfold rM at hx;split at hx
  ·exact .inl hx
  ·rename_i hd;have hd:D x=I:=by simpa using hd
   cases hh:H x with
   |none=>exact .inr ⟨hd,hx,rfl⟩
   |some o'=>
    have:=Gz x o' hh;rw[hx] at this;cases this;exact .inl ((hD x hd (Oz x o hx)).trans hh)
 refine ⟨⟨λx o hx=> ?_,λi j x y b c d hx hy e1 e2=> ?_⟩,⟨hf.os,hf.tape,hf.output,hf.size,hf.le,λb hb hn=>hf.old b hb (λ⟨id,o,c,h1,h2⟩=>hn ⟨id,o,c,Gz id o h1,h2⟩),λb hb hm=> ?_⟩⟩
 ·rcases cls x o hx with h1|⟨h1,h2,h3⟩
  ·exact lA.ob x o h1
  ·let ⟨b,c,q1,q2,q3,q4⟩:=other x o h1 h2 h3;exact ⟨b,c,(Bs x (Oz x o h2)).trans q1,A6 q2 hf.size,q3.mono hf.le q1 (hf.old b q2 q4)⟩
 ·have aFw:∀p q z z' b c d,H' p=V z->D q=I->f q=V z'->H q=G->g'.O p=V (b,c)->g'.O q=V (b,d)->False:=by
   intro p q z z' b c d h1 h2 h3 h4 e1 e2;let ⟨b',c',q1,q2,q3,q4⟩:=other q z' h2 h3 h4;rw[Bs q (Oz q z' h3),q1] at e2;cases e2;exact q4 (hf.own _ q2 ⟨p,z,c,h1,e1⟩)
  rcases cls i x hx with h1|⟨h1,h2,h3⟩<;>rcases cls j y hy with k1|⟨k1,k2,k3⟩
  ·exact lA.inj i j x y b c d h1 k1 e1 e2
  ·exact (aFw i j x y b c d h1 k1 k2 k3 e1 e2).elim
  ·exact (aFw j i y x b d c k1 h1 h2 h3 e2 e1).elim
  ·rw[Bs i (Oz i x h2)] at e1;rw[Bs j (Oz j y k2)] at e2;exact hr.inj i j x y b c d h2 k2 e1 e2
 ·let ⟨x,o,c,hx,e⟩:=hm;rcases cls x o hx with h1|⟨h1,h2,h3⟩
  ·let ⟨id,o',c',q1,q2⟩:=hf.own b hb ⟨x,o,c,h1,e⟩;exact ⟨id,o',c',Gz id o' q1,q2⟩
  ·rw[Bs x (Oz x o h2)] at e;exact ⟨x,o,c,h2,e⟩
def amr {ro:cD} {nt:Nat} {all:eP} {c:Call} {T T1:Tf} {H:Hf} {fv:SV} {aa:bc} {nx m:Nat} {a:Act} (hi:all[i]? =V o) (hw:j0 all.toList o T=V M) (gu:o.op= .call c) (hc:Ao T c.callee=V fv) (has:gA T c.args.toList=V aa) (jj:FR g nt T1 a.tmps) (hT:∀t∈o.looksAt all,T1 t=T t) (hs:∀(u:C') (us:fG),VR g u fv->mZ g us aa->TU E.P (m-1) u us.toArray w KE) (hk:∀e w',KE e w'->∃zp r,e=aaS zp r/\(zp=I->K (a.put o.dst r) w')/\(zp=M->Q (.panic [{v:=r,recovered:=I}]) a w')):
  wpOpIn (wC ro) m E.P all Q i K a w:=by
 obtain ⟨x,hx⟩:∃x,c.callee= .value x:=by
  cases hcc:c.callee with
  |value x=>exact ⟨x,rfl⟩
  |_=>rw[hcc] at hc;cases hc
 have aAP:=KW hT;rw[gu] at aAP;have hfv:dB T1 x=V fv:=by
  rw[aAP x (by simp[J',Call.operands,hx])]
  rw[hx] at hc;exact hc
 have hva:gA T1 c.args.toList=V aa:=by
  rw[<-has];exact yA λy hy=>aAP y (by simp[J',Call.operands,hx];exact .inr (by simpa using hy))
 have hu:=s9 jj hfv;have oc:=Ba jj hva;let ⟨d,Ef,Mn⟩:=hs (a.eval x) (c.args.toList.map a.eval) hu oc;have QY:(resolve a.eval c o.type).run E.P w= .ok d w:=by
  simp only[resolve,hx];have:c.args.map a.eval=(c.args.toList.map a.eval).toArray:=Kb (by simp)
  rw[this];exact Ef
 have fin:∀e w',KE e w'->(match e,w' with
   | .returned v,Ll=>K (a.put o.dst v) Ll
   | .panicked chain,Ll=>Q (.panic chain) a Ll
   | .outgrown,_=>LetsOut Q):=by
  intro e w' he;obtain ⟨zp,r,rfl,h1,h2⟩:=hk e w' he;cases zp with
  |false=>exact h1 rfl
  |true=>exact h2 rfl
 unfold wpOpIn;rw[hi];simp only;rw[aG (AB jj (by rw[BQ hT];exact hw))]
 refine ⟨CP E.P w,?_⟩;rw[Oper.semAt_eq _ _ _ (λc' h=>by rw[gu] at h;cases h)]
 have hex:(execOp a.eval o).run E.P w=(invoke d.target d.args).run E.P w:=by
  simp only[execOp,gu,D',QY,E']
 rw[hex];rcases Mn with ⟨k,as',h1,h2⟩|⟨l,k,tmps,as',bo,h1,h2⟩|⟨r,w',h1,h2⟩
 ·rw[h1];refine ⟨λh=>by simp[wC] at h,?_⟩
  refine CallsIn.mono (F:=wC ro) (show CallsIn (wC ro) (m-1) E.P k as' w _ from h2) ?_;intro e w' he;have:=fin e w' he;cases e<;>exact this
 ·rw[h1];refine ⟨λh=>by simp[wC] at h,?_⟩
  refine RoundIn.mono (F:=wC ro) (show RoundIn (wC ro) (m-1) E.P l k tmps as' bo w _ from h2) ?_;intro e w' he;have:=fin e w' he;cases e<;>exact this
 ·rw[h1];exact fin _ w' h2
def atZ {ro:cD} {nt:Nat} {all:eP} {c:Call} {T:Tf} {H H':Hf} {fv v:SV} {aa:bc} (hi:all[i]? =V o) (hw:j0 all.toList o T=V M) (hd:mX nt o.dst=M) (gu:o.op= .call c) (hc:Ao T c.callee=V fv) (has:gA T c.args.toList=V aa) (hs:qW E I fv aa H nx v H' nx') (hD:∀x,D x=I->x<nx->H' x=H x) (hD2:∀x,D x=I->nx<=x->H' x=G):
  TL E ro nt all i o T (λx=>H x≠G) H (λx=>nx<=x) (λx=>nx<=x/\x<nx') v D H':=by
 intro m g f T1 a w K Q hE jj hr hT JN qL hk;have Gz:∀x y,H x=V y->f x=V y:=λx y hx=>by rw[JN x (by show H x≠G;rw[hx];simp),hx]
 have hr0:HR g H w:=hr.sub Gz;refine amr (g:=g) (H:=H) (nx:=nx) hi hw gu hc has jj hT (λu us hu oc=>hs (m-1) g w u us hE hr0 (λy hy=>qL y hy) hu oc) ?_
 rintro e w' ⟨r,rfl,g',h1,h2,h3,h4,h5⟩;refine ⟨I,r,rfl,λ_=> ?_,λh=>by cases h⟩
 let ⟨q1,q2⟩:=aqq hr Gz (λy hy=>qL y hy) h2 h3 h4 hD hD2
 exact hk r w' g' ((jj.mono h3.le).put hd h1) q1 q2 (λx hx=>by
  by_cases hl:x<nx
  ·exact h4 x hl
  ·rw[h5 x (by omega),qL x (by show nx<=x;omega)])
end
section
variable {E:Env} {g:Gh} {f:Hf} {w:World}
structure DS where
 T:Tf
 F:Hf
structure Stp where
 dst:cD
 v:SV
 D:Nat->Bool
 H:Hf
def DS.app (s:DS) (u:Stp):DS:=⟨eG s.T u.dst u.v,rM u.D u.H s.F⟩
def mG (us:Nat->Stp) (l:bJ) (p:Nat->Bool) (s:DS):DS:=(l.filter p).foldl (λs j=>s.app (us j)) s
def aas (us:Nat->Stp) (t:Nat) (p q:Nat->Bool):∀(l:bJ) (s s2:DS),s.T t=s2.T t->(∀j∈l,(us j).dst=V t->p j=q j)->(mG us l p s).T t=(mG us l q s2).T t
 | [],s,s2,h,_=>h
 |j::l,s,s2,h,hpq=>by
  have tG:=λs s2 hs=>aas us t p q l s s2 hs (λi hi=>hpq i (dQ _ hi))
  have Q1:∀s:DS,(s.app (us j)).T t=if (us j).dst=V t then V (us j).v else s.T t:=λs=>rfl
  unfold mG at tG ⊢;by_cases hl:(us j).dst=V t
  ·have:=hpq j (by simp) hl
   cases hp:p j
   ·rw[hp] at this;simp only[jc,hp,<-this];exact tG s s2 h
   ·rw[hp] at this;simp only[jc,hp,<-this,aw,uu];exact tG _ _ (by rw[Q1,Q1,aG hl,aG hl])
  ·have key:∀s:DS,(s.app (us j)).T t=s.T t:=λs=>by rw[Q1,aC hl]
   cases hp:p j<;>cases hq:q j<;>simp only[jc,hp,hq,aw,uu,ax,au]
   ·exact tG _ _ h
   ·exact tG _ _ (by rw[key];exact h)
   ·exact tG _ _ (by rw[key];exact h)
   ·exact tG _ _ (by rw[key,key];exact h)
def aat (us:Nat->Stp) (x:Nat) (p q:Nat->Bool):∀(l:bJ) (s s2:DS),s.F x=s2.F x->(∀j∈l,(us j).D x=M->p j=q j)->(mG us l p s).F x=(mG us l q s2).F x
 | [],s,s2,h,_=>h
 |j::l,s,s2,h,hpq=>by
  have tG:=λs s2 hs=>aat us x p q l s s2 hs (λi hi=>hpq i (dQ _ hi))
  have Q1:∀s:DS,(s.app (us j)).F x=if (us j).D x=M then (us j).H x else s.F x:=λs=>rfl
  unfold mG at tG ⊢;by_cases hl:(us j).D x=M
  ·have:=hpq j (by simp) hl
   cases hp:p j
   ·rw[hp] at this;simp only[jc,hp,<-this];exact tG s s2 h
   ·rw[hp] at this;simp only[jc,hp,<-this,aw,uu];exact tG _ _ (by rw[Q1,Q1,aG hl,aG hl])
  ·have key:∀s:DS,(s.app (us j)).F x=s.F x:=λs=>by rw[Q1,aC hl]
   cases hp:p j<;>cases hq:q j<;>simp only[jc,hp,hq,aw,uu,ax,au]
   ·exact tG _ _ h
   ·exact tG _ _ (by rw[key];exact h)
   ·exact tG _ _ (by rw[key];exact h)
   ·exact tG _ _ (by rw[key,key];exact h)
def DS.ext' {s t:DS} (h1:∀u,s.T u=t.T u) (h2:∀k,s.F k=t.F k):s=t:=by
 cases s;cases t;simp only[DS.mk.injEq];exact ⟨funext h1,funext h2⟩
def aBg (l:Array Bool) (i j:Nat) (h:i<l.size) (d:Bool):(l.setIfInBounds i M).getD j d=if j=i then M else l.getD j d:=by
 simp only[uv,acJ];by_cases hj:j=i
 ·subst hj;simp[h]
 ·simp[hj,wO hj]
def direct (ops:eP) (j:Nat):bJ:=((ops[j]?).map GF).getD []
def zu (ops:eP):Nat->Nat->bJ
 |0,_=> []
 |n+1,j=>direct ops j++(direct ops j).flatMap (zu ops n)
def CN {ops:eP} {S:Nat->Prop} (hS:∀j,S j->∀i∈direct ops j,S i):∀(n j:Nat),S j->∀i∈zu ops n j,S i
 |0,_,_,i,hi=>by simp[zu] at hi
 |n+1,j,hj,i,hi=>by
  simp only[zu,eV,ur] at hi;rcases hi with hi|⟨k,hk,hi⟩
  ·exact hS j hj i hi
  ·exact CN hS n k (hS j hj k hk) i hi
def arv {ops:eP} (hS:∀j,S j->∀i∈direct ops j,S i):∀(n j:Nat),(∀i∈direct ops j,S i)->∀i∈zu ops n j,S i
 |0,_,_,i,hi=>by simp[zu] at hi
 |n+1,j,hj,i,hi=>by
  simp only[zu,eV,ur] at hi;rcases hi with hi|⟨k,hk,hi⟩
  ·exact hj i hi
  ·exact CN hS n k (hj k hk) i hi
def Jm {ops:eP}:i∈Region.ready .any ops dE↔i<ops.size/\dE.getD i M=I/\∀j∈direct ops i,dE.getD j I=M:=by
 unfold Region.ready;simp only[nI,Wa,bG,acM];constructor
 ·rintro ⟨h1,h2,h3⟩;refine ⟨h1,h2,λj hj=> ?_⟩
  unfold direct at hj;rw[A8 h1] at hj h3;simp only[Lh,CZ,GF,dM,nI] at hj h3;obtain ⟨e,⟨he1,he2⟩,rfl⟩:=hj;rw[Array.all_eq_true'] at h3;have:=h3 e (by simpa using he1)
  simpa[he2] using this
 ·rintro ⟨h1,h2,h3⟩;refine ⟨h1,h2,?_⟩;rw[A8 h1];simp only[Lh,CZ];rw[Array.all_eq_true'];intro e he;by_cases hb:Region.binds .any e=M
  ·have:=h3 e.on (by
    unfold direct;rw[A8 h1];simp only[Lh,CZ,GF,dM,nI];exact ⟨e,⟨by simpa using he,hb⟩,rfl⟩)
   simp[this]
  ·simp[hb]
def HR.Yy (h:HR g f w) (he:w'.heap=w.heap):HR g f w':=
 ⟨λid o ho=>by
  let ⟨b,c,q1,q2,q3⟩:=h.ob id o ho;exact ⟨b,c,q1,by rw[he];exact q2,q3.mono (.refl _) q1 (by rw[he])⟩,h.inj⟩
def Fr.Yy (he:w'.heap=w.heap) (h1:w'.os=w.os) (h2:w'.tape=w.tape) (h3:w'.output=w.output):Fr g f w g f w':=
 ⟨h1,h2,h3,by rw[he];exact de _,.refl _,λb _ _=>by rw[he],λ_ _ h=>h⟩
structure Ind (ops:eP) (us:Nat->Stp) (need:Nat->Nat->Prop) (i j:Nat):Prop where
 s1:∀t,(us i).dst=V t->∀o,ops[j]? =V o->t∉o.looksAt ops
 s2:∀t,(us j).dst=V t->∀o,ops[i]? =V o->t∉o.looksAt ops
 s3:∀t,(us i).dst=V t->(us j).dst≠V t
 d:∀x,(us i).D x=M->(us j).D x=I
 n1:∀x,need j x->(us i).D x=I
 n2:∀x,need i x->(us j).D x=I
end
section
variable {E:Env} {g:Gh} {f:Hf} {w:World}
def tD (x:Nat):∀(l:bJ),mE x l=M↔x∈l
 | []=>by simp[mE]
 |y::l=>by
  unfold mE;rw[cE,beq_eq];by_cases h:x=y
  ·simp[h]
  ·simp only[h,aR,ax,au,da,false_or];exact tD x l
def akZ:∀(xs:List Ew),acX xs=xs.filterMap fun| .tmp t=>V t|_=>G
 | []=>rfl
 |x::xs=>by
  have ih:=akZ xs;cases x<;>simp[acX,ih]
def afI (ops:eP) (o:S'):looks ops.toList o=o.looksAt ops:=by
 unfold looks Oper.looksAt;rw[akZ];cases hg:o.guard with
 |none=>rfl
 |some p=>
  let ⟨j,b⟩:=p;simp only[Fb,l5];rfl
end
section
variable {E:Env} {g:Gh} {w:World} {nt W base:Nat} {ops:eP}
end
section
variable {E:Env} {g:Gh} {f:Hf} {w:World} {T:Tf}
end
section
variable {E:Env} {g:Gh} {f:Hf} {w:World}
def SP (F:Fence) (n:Nat) (P:J5) (c:P') (Q:Exit->Act->World->Prop) (a:Act) (w:World):Prop:=
 ∀(b:Frame) (k:List Item) (cs:List Frame),b.roundOf=F.round->F.fn b.fn->F.room (cs.length+1+n)->
  ∃e a' w',Q e a' w'/\ArrivesIn (Machine.fenced P F) P (lone (b.atR a (.code c:: .inLoop c::k)) cs w) b k cs e a' w'
def wpX (F:Fence) (n:Nat) (P:J5) (c:P') (Q:Exit->Act->World->Prop) (a:Act) (w:World):Prop:=
 match c with
 | .loop b=>SP F n P b Q a w
 |c=>c.wpIn F n P Q a w
inductive ExR (g:Gh):Ex->Exit->Prop
 |normal:ExR g .normal .normal
 |exit (id:_):ExR g (.exit id) (.exit id)
 |ret:ExR g .ret .ret
 |zp {v u:_} (h:VR g u v):ExR g (.zp v) (.panic [{v:=u,recovered:=I}])
structure TK (w w':World):Prop where
 os:w'.os=w.os
 tape:w'.tape=w.tape
 output:w'.output=w.output
 size:w.heap.size<=w'.heap.size
 heap:∀b,b<w.heap.size->w'.heap[b]? =w.heap[b]?
def YR (P:J5) (k:FuncId):Prop:=∃fn,P.funcs[k]? =V fn/\fn.body.isSome=M/\fn.name≠ "runtime.NumGoroutine"
structure Wr (w w':World) (b:Nat) (e:pJ) (jP:jw):Prop where
 heap:w'.heap[b]? =V (.cells jP e (0,0))
 size:w'.heap.size=w.heap.size
 KV:∀k,k≠b->w'.heap[k]? =w.heap[k]?
 os:w'.os=w.os
 tape:w'.tape=w.tape
 output:w'.output=w.output
structure Nw (w w':World) (e:pJ) (jP:jw):Prop where
 heap:w'.heap=w.heap.push (.cells jP e (0,0))
 os:w'.os=w.os
 tape:w'.tape=w.tape
 output:w'.output=w.output
def asF (P:J5) (k:FuncId) (sz:Nat):Prop:=
 YR P k/\∀(m:Nat) (w:World) (b off n c i j:Nat) (cur:jw) (e:pJ),w.heap[b]? =V (.cells cur e (0,0))->off+n*sz<=cur.size->(∀t,t<n*sz->∀v,cur[off+t]? =V v->v.oneCell'=M)->i<j->j<=n->n<=c->
  CallsIn aa7 m P k #[.slice (V ⟨b,off,G⟩) n c,.int .i64 i,.int .i64 j] w λr w'=>r= .returned (.slice (V ⟨b,off,G⟩) (n-(j-i)) c)/\∃jP,Wr w w' b e jP/\jP.size=cur.size/\
   (∀t,(t<off+i*sz\/off+n*sz<=t)->jP[t]? =cur[t]?)/\(∀t,t<n*sz-j*sz->jP[off+i*sz+t]? =cur[off+j*sz+t]?)/\∀t,t<j*sz-i*sz->∃v,jP[off+i*sz+(n*sz-j*sz)+t]? =V v/\v.oneCell'=M
def aGe (P:J5) (k:FuncId) (e:pJ) (sz:Nat):Prop:=
 YR P k/\∀(m:Nat) (w:World) (b off n c i vb kb q vc:Nat) (cur J4:jw) (ev:pJ),w.heap[b]? =V (.cells cur e (0,0))->w.heap[vb]? =V (.cells J4 ev (0,0))->vb≠b->off+c*sz<=cur.size->kb+q*sz<=J4.size->
  (∀t,t<n*sz->∀v,cur[off+t]? =V v->v.oneCell'=M)->(∀t,t<q*sz->∀v,J4[kb+t]? =V v->v.oneCell'=M)->n<=c->n<=1000000->0<q->q<=1000000->i<=n->
  CallsIn aa7 m P k #[.slice (V ⟨b,off,G⟩) n c,.int .i64 i,.slice (V ⟨vb,kb,G⟩) q vc] w λr w'=>∃(b' o' c':Nat) (jP:jw),r= .returned (.slice (V ⟨b',o',G⟩) (n+q) c')/\n+q<=c'/\o'+c'*sz<=jP.size/\
   (∀t,t<(n+q)*sz->jP[o'+t]? =(B5 ((cur.toList.drop off).take (n*sz)) (i*sz) ((J4.toList.drop kb).take (q*sz)))[t]?)/\((b'=b/\o'=off/\Wr w w' b e jP)\/(b'=w.heap.size/\o'=0/\Nw w w' e jP))
def TP (P:J5) (k:FuncId) (z:Bool):Prop:=
 YR P k/\(∀(m:Nat) (w:World) (p:Z Addr) (c:Nat),CallsIn aa7 m P k #[.slice p 0 c] w λr w'=>r= .returned (aT z (.tuple #[]) (.slice p 0 c))/\w'.heap=w.heap/\w'.os=w.os/\w'.tape=w.tape/\w'.output=w.output)/\
  ∀(m:Nat) (w:World) (b off c:Nat) (xs:List Int) (cur:jw) (e:pJ),w.heap[b]? =V (.cells cur e (0,0))->0<xs.length->xs.length<=4294967295->xs.length<=c->(∀t x,xs[t]? =V x->cur[off+t]? =V (.int .i64 x))->
   CallsIn aa7 m P k #[.slice (V ⟨b,off,G⟩) xs.length c] w λr w'=>r= .returned (aT z (.tuple #[]) (.slice (V ⟨b,off,G⟩) (lP xs).length c))/\∃w1 jP,Wr w w1 b e jP/\TK w1 w'/\jP.size=cur.size/\
    (∀t,(t<off\/off+xs.length<=t)->jP[t]? =cur[t]?)/\∀t x,(CG z xs)[t]? =V x->jP[off+t]? =V (.int .i64 x)
def Ke (E:Env) (k c:Nat):Prop:=(1048576<=c->TP E.P k (ku c 1048576))/\(c<1048576->∀ie,E.ty.get (c / 2)=V ie->(c % 2=0->asF E.P k ie.size)/\(c % 2≠0->aGe E.P k (c / 2) ie.size))
def Lm {us:gO} {x:Nat} (h:x∉us.map (·.1)) (F:Hf):gY F us x=F x:=by rw[Dx us F F x,aC h]
def aaH (us:gO) (new:Nat):Nat->Bool:=λx=>iL (x∈us.map (·.1)\/x=new)
def aqO {op:Op} {T:Tf} {r:SV×gO} (h:vu E op T f new=V r):∀c,op≠ .defer c:=by
 intro c e;subst e;cases h
end
section
variable {E:Env} {g:Gh} {f:Hf} {w:World}
variable {Q:Exit->Act->World->Prop}
def P3 {nt:Nat} {tm:Tf} {a:Act} {ops:eP} (jj:FR g nt tm a.tmps) (hw:j0 ops.toList o tm=V M):ac0 o (yielded ops a.tmps)=M:=AB jj hw
def aDn {ro:cD} {ops:eP} {m:Nat} {a:Act} (hi:ops[i]? =V o) (hw:ac0 o (yielded ops a.tmps)=M) (h:o.uponIn (wC ro) m E.P a K Q ((o.semAt (wC ro).round a.eval).run E.P w)):wpOpIn (wC ro) m E.P ops Q i K a w:=by
 unfold wpOpIn;rw[hi];simp only;rw[aG hw];exact ⟨CP E.P w,h⟩
def LP (x:Nat):∀(l:bJ),Jx x l=M↔x∈l
 | []=>by simp[Jx]
 |y::l=>by
  unfold Jx;rw[cE,beq_eq];by_cases h:x=y
  ·simp[h]
  ·simp only[h,aR,ax,au,da,false_or];exact LP x l
def SW {seen:bJ} {sa:Array Nat} (hs:sa.toList=seen):∀{ms:List aa0} {es:ig},kp g ms es->kp g (ms.filter λe=> !sa.contains e.born) (qw seen es)
 |_,_,.nil=>.nil
 |_,_,.cons (m:=m) (x:=x) (ms:=ms) (xs:=xs) hd ht=>by
  have ih:=SW hs ht;have hc:sa.contains m.born=Jx x.2.2 seen:=by
   rw[nJ,LP,Array.contains_iff_mem,<-Array.mem_toList_iff,hs,hd.2.2]
  unfold qw at ih ⊢;rw[jc,jc,hc];cases Jx x.2.2 seen with
  |true=>exact ih
  |false=>exact .cons hd ih
def kp.aHF {es:ig} (h:kp g ms es):ms= []↔es= []:=by cases h<;>simp
def kp.mem {es:ig} (h:kp g ms es):∀m∈ms,∃x∈es,asE g m x:=by
 intro m hm;induction h with
 |nil=>simp at hm
 |cons hd ht ih=>
  rcases da.1 hm with rfl|hm
  ·exact ⟨_,by simp,hd⟩
  ·let ⟨x,hx,h⟩:=ih hm;exact ⟨x,dQ _ hx,h⟩
def akI {seen:bJ} (hs:sa.toList=seen) {ms:Array aa0} {es:ig} (h:kp g ms.toList es):kp g (leftOf ms sa).toList (qw seen es):=by
 have:=SW hs h;unfold leftOf;rw[Array.toList_filter];exact this
def apJ {since last c:Nat} {seen:bJ} {es:ig} (h:iterM since seen last c es=M):(∀e∈es,e.2.2<since)/\since<=last:=by
 unfold iterM at h;rw[bG] at h;refine ⟨λe he=> ?_,(bR _ _).1 h.2⟩
 exact (bR _ _).1 (jJ.1 h.1 e he)
def Te {b:Nat}:∀{ms:List aa0} {es:ig},kp g ms es->∀{v:SV},FA b es=V v->∃e,ms.find? (·.born==b)=V e/\VR g (.tuple #[e.key,e.val]) v
 |_,_,.nil,v,h=>by cases h
 |_,_,.cons (m:=m) (x:=x) (ms:=ms) (xs:=es) hd ht,v,h=>by
  unfold FA at h;rw[cE] at h;split at h
  ·rename_i hb;have hb:=(beq_iff _ _).1 hb;cases h;refine ⟨m,by simp[hd.2.2,hb],.dr (.cons hd.1 (.cons hd.2.1 .nil))⟩
  ·rename_i hb;have hb:¬x.2.2=b:=λe=>hb ((beq_iff _ _).2 e)
   let ⟨e,h1,h2⟩:=Te ht h;refine ⟨e,?_,h2⟩;rw[List.find?_cons];have:(m.born==b)=I:=by rw[hd.2.2];simpa using hb
   rw[this];exact h1
def SY:∀{l:bJ} {b:Nat},OD l=V b->l.getLast? =V b
 | [],b,h=>by cases h
 | [a],b,h=>by cases h;rfl
 |a::c::l,b,h=>by
  have:=SY (l:=c::l) h;rw[akT];exact this
end
section
variable {E:Env} {g:Gh} {f:Hf} {w:World}
end
section
section
variable {F:Fence} {n:Nat} {P:J5} {Q:Exit->Act->World->Prop} {a:Act} {w:World} {c:P'}
def BY (h:c.wpIn F n P (Exit.then (SP F n P c Q) Q) a w):SP F n P c Q a w:=by
 intro b k cs Bs hb hr;let ⟨e,a₁,w₁,hq,xF⟩:=h b (.inLoop c::k) cs Bs hb hr;cases e with
 |normal=>
  let ⟨e₂,a₂,w₂,aPN,aHW⟩:=hq b k cs Bs hb hr;exact ⟨e₂,a₂,w₂,aPN,.of_steps (StepsIn.trans xF (.one (fenced_calm hb hr rfl) stepR_inLoop)) aHW⟩
 |exit id=>exact ⟨_,a₁,w₁,hq,.pass (x:=.inLoop c) rfl (λ_ _=>.inl (by simp)) xF⟩
 |goto l=>exact ⟨_,a₁,w₁,hq,.pass (x:=.inLoop c) rfl (λ_ _=>.inl (by simp)) xF⟩
 |ret=>exact ⟨_,a₁,w₁,hq,.pass (x:=.inLoop c) rfl (λ_ _=>.inl (by simp)) xF⟩
 |panic ch=>exact ⟨_,a₁,w₁,hq,.pass (x:=.inLoop c) rfl (λ_ _=>.inl (by simp)) xF⟩
 |outgrown=>exact ⟨_,a₁,w₁,hq,.pass (x:=.inLoop c) rfl (λ_ _=>.inl (by simp)) xF⟩
def Wj (h:SP F n P c Q a w):(Code.loop c).wpIn F n P Q a w:=λb k cs Bs hb hr=>
 let ⟨e,a',w',hq,xF⟩:=h b k cs Bs hb hr
 ⟨e,a',w',hq,.of_steps (.one (fenced_calm hb hr rfl) stepR_loop) xF⟩
def sA (h:wpX F n P c Q a w):c.wpIn F n P Q a w:=by
 cases c<;>first|exact h|exact Wj h
end
variable {E:Env} {g:Gh} {f:Hf} {w:World}
def okL {a b:P'} (h:codeOk (.seq a b)=M):codeOk a=M:=by
 have h:(codeOk a&&codeOk b)=M:=h;rw[bG] at h;exact h.1
def okR {a b:P'} (h:codeOk (.seq a b)=M):codeOk b=M:=by
 have h:(codeOk a&&codeOk b)=M:=h;rw[bG] at h;exact h.2
def SX (id i:Nat):leave id (.exit i)=if i=id then .normal else .exit i:=by
 show aT (ku i id) Ex.normal (.exit i)=_;rw[cE,beq_eq];by_cases h:i=id<;>simp[h]
end
section
variable {E:Env} {g:Gh} {f:Hf} {w:World}
def axC {x:SV} (h:aqn E x=M):∃k fi ca fn,x= .fn (.func k) fi ca/\E.fn.get k=V fn/\fn.body.isSome=M:=by
 cases x with
 |fn f fi ca=>
  cases f with
  |func k=>
   have h: @Option.rec Func (λ_=>Bool) I (λfn=>fn.body.isSome) (E.fn.get k)=M:=h
   cases hf:E.fn.get k with
   |none=>rw[hf] at h;cases h
   |some fn=>rw[hf] at h;exact ⟨k,fi,ca,fn,rfl,hf,h⟩
  |_=>cases h
 |_=>cases h
def yF {P:J5} (hf:P.funcs[k]? =V fn) (hb:fn.body.isSome=M) (args:jw) (w:World):
  ((callFunc k args).run P w= .ok .numGoroutine w/\fn.name= "runtime.NumGoroutine")\/(callFunc k args).run P w= .ok (.enter k args) w:=by
 have h2:fn.body≠G:=by cases hfb:fn.body<;>simp_all
 by_cases h:fn.name= "runtime.NumGoroutine"
 ·left;exact ⟨by simp[callFunc,hf,h,Sem.run],h⟩
 ·right;simp[callFunc,hf,h,h2,Sem.run]
def afv {P:J5} (k:FuncId) (fi ca us:jw) (w:World):(Deferred.ofValue (.func (.func k) fi ca) us).run P w= .ok {target:=.fn (.func k) ca,args:=fi++us} w:=rfl
end
section
variable {E:Env} {g:Gh} {f:Hf} {w:World}
def HR.grow (h:HR g f w) (oA:w.heap.size<=w'.heap.size) (hs:∀b,b<w.heap.size->w'.heap[b]? =w.heap[b]?):HR g f w':=
 ⟨λid o ho=>let ⟨b,c,q1,q2,q3⟩:=h.ob id o ho;⟨b,c,q1,A6 q2 oA,q3.mono (.refl _) q1 (hs b q2)⟩,h.inj⟩
def aeU (a:Act):ab2->Go.Sem C'
 | .tmp t=>pure (a.tmps.getD t undef)
 | .cell k t=>do loadVar t (<-asAddr (a.tmps.getD k undef))
def akA (hE:fJ E g) (h:HR g f w) {nt:Nat} {T:Tf} {a:Act} (jj:FR g nt T a.tmps) {x:SV} (hx:Sn E T f rv=V x):∃v,(aeU a rv).run E.P w= .ok v w/\VR g v x:=by
 cases rv with
 |tmp t=>exact ⟨_,rfl,jj.tm t x hx⟩
 |cell k t=>
  let ⟨y,hy,hl⟩:=aq (show az (T k) (rm E f t)=V x from hx);have hu:=jj.tm k y hy;let ⟨v,hv,hvr⟩:=SQ hE h hu hl;let ⟨q,h1,_⟩:=aq hl;obtain rfl:=rh h1;refine ⟨v,?_,hvr⟩;generalize hz:a.tmps.getD k undef=z at hu hv;cases hu with
  |ptr hρ=>
   simp only[Instr.loadAt,ab9,D',I',E'] at hv;simp only[aeU,hz,asAddr,D',I',E'];exact hv
def LD (hE:fJ E g) (h:HR g f w) {nt:Nat} {T:Tf} {a:Act} (jj:FR g nt T a.tmps):∀{rvs:List ab2} {xs:bc},zY E T f rvs=V xs->∃vs,(rvs.mapM (aeU a)).run E.P w= .ok vs w/\mZ g vs xs
 | [],xs,hx=>by cases hx;exact ⟨[],by simp,.nil⟩
 |rv::rvs,xs,hx=>by
  let ⟨x,l,h1,h2,hx⟩:=bU (show cC (Sn E T f rv) (zY E T f rvs) (λv l=>V (v::l))=V xs from hx)
  cases hx;let ⟨v,D6,HI⟩:=akA hE h jj h1;let ⟨vs,hs1,hs2⟩:=LD hE h jj h2;refine ⟨v::vs,?_,.cons HI hs2⟩;rw[V7];simp only[D'];rw[D6];simp only[E'];rw[hs1];simp
def aeT (hE:fJ E g) (h:HR g f w) {nt:Nat} {T:Tf} {a:Act} (jj:FR g nt T a.tmps) {xs:bc} (hx:zY E T f fn.results.toList=V xs):∃v,(results fn a.tmps).run E.P w= .ok v w/\VR g v (oneOf xs):=by
 let ⟨vs,h1,h2⟩:=LD hE h jj hx;refine ⟨if h:vs.toArray.size=1 then vs.toArray[0] else .tuple vs.toArray,?_,?_⟩
 ·have e:∀f:ab2->Go.Sem C',(∀x,f x=aeU a x)->fn.results.mapM f=fn.results.mapM (aeU a):=λf hf=>by rw[funext hf]
  unfold results;rw[e _ (λx=>by cases x<;>rfl)]
  rw[<-Array.toArray_toList (xs:=fn.results),List.mapM_toArray];simp only[D',Sem.run_map];rw[h1];simp
 ·cases h2 with
  |nil=>exact .dr (by simpa using .nil)
  | @cons v x vs' xs' hv ht=>
   cases ht with
   |nil=>simpa[oneOf] using hv
   | @cons v2 x2 vs2 xs2 HI ht2=>
    have:¬(v::v2::vs2).toArray.size=1:=by simp
    rw[dif_neg this];exact .dr (by simpa using .cons hv (.cons HI ht2))
def Gl:∀(vs:bc) (i:Nat) (t:La) (j:Nat),(setArgs vs i t).get j=if i<=j/\j<i+vs.length then vs[j-i]? else t.get j
 | [],i,t,j=>by
  have:¬(i<=j/\j<i+([]:bc).length):=by simp
  rw[aC this];rfl
 |v::vs,i,t,j=>by
  have e:setArgs (v::vs) i t=setArgs vs (i+1) (t.set i (V v)):=rfl;rw[e,Gl vs (i+1) _ j,Tr.amQ];by_cases h1:j=i
  ·subst h1;rw[aC (by omega),aG rfl,aG (by simp)]
   simp
  ·by_cases h2:i+1<=j/\j<i+1+vs.length
   ·rw[aG h2,aG (by simp;omega)]
    have:j-i=(j-(i+1))+1:=by omega
    rw[this,tR]
   ·rw[aC h2,aC h1,aC (by simp;omega)]
def FR.args {us:fG} {aa:bc} (h:mZ g us aa) {nt:Nat} (hn:aa.length<=nt):FR g nt (setArgs aa 0 .nil).get (us.toArray++Array.replicate (nt-us.toArray.size) undef):=by
 have hl:=h.length;refine ⟨by simp;omega,λt x hx=> ?_⟩
 rw[Gl] at hx;split at hx
 ·rename_i hc;let ⟨v,h1,h2⟩:=h.get hx;have dq:t<us.length:=by omega
  have e:(us.toArray++Array.replicate (nt-us.toArray.size) undef).getD t undef=v:=by
   rw[uv,Lf (by simpa using dq)]
   simp only[Nat.sub_zero] at h1;simp[h1]
  rw[e];exact h2
 ·cases hx
end
section
variable {E:Env} {g:Gh} {f:Hf} {w:World}
end
end Go.bM
end
