/- Part. -/
import Derived.WalkKit
import Derived.RangeFuncLeaves
import Derived.OrdersIn
import Derived.WalkLawsBesides
import Derived.Great.BuildSlice
import Derived.Deep.AppendSrc
import Derived.Laws.CopyRow
import Derived.Laws.AppendOwn
import Derived.Great.FillDense
import Derived.Laws.MakeOwn
import Derived.MapKept
import Derived.RangeFuncCalls
import Derived.Lib.Bytealg
import Derived.Laws.Externs
import Derived.Maps.RangeRun
import Derived.RangeFuncRecord
import Derived.RecoverIn
set_option linter.all false
abbrev Go.G:=@Option
abbrev Go.xN:=ByteArray
open Option renaming some->V,none->A
open Bool renaming true->I,false->U
open List renaming length->O,replicate->Va
open Go renaming TypeId->Ey,Value->O',Operand->S',Program->Y',IntKind->UQ,BinOp->Z6,MapEntry->Hs,Oper->pw,ResultVar->NR
open Go.Sem renaming run_bind->P',run_pure->X',run_ite->Om
open Nat renaming ble->D',beq->Cz,add->E',mul->N',sub->Hu,succ->S6,div->Ys,mod->Ht
open Go.Result renaming andThen_ok->V'
open Go.Op renaming operands->Z',equalIn->OI
open Decidable renaming decide->A'
open Int renaming ofNat->OF
open Go.Builtin renaming len_->OC,append_->MV,firstCells->Nz,copy_->ML
open Go.Utf8 renaming decode->Lg
open Go.Instr renaming sureAddr->Pk,sliceAt->R2,makeInterface->Sj
open Go.Fence renaming wide->U1
open Go.MapKept renaming run_getObj_map->Sk
open Go.ByteArray renaming toList_eq->ad3
open Go.Region renaming wanted->adi
noncomputable section
namespace Go.bM
def W {p:Prop} (h:p:=by omega):p:=h
def am {p:Prop} (h:p:=by simp):p:=h
def ap {p:Prop} (h:p:=by simp;omega):p:=h
def kh:=@Option.some.inj
def ux:=@of_decide_eq_true
def rE:=@List.append_nil
def ax:=@if_pos
def au:=@if_neg
def bH:=@congrArg
def qz:=@Nat.le_of_eq
def lO:=@Nat.le_trans
def cN:=@Nat.zero_add
def Pu:=@of_decide_eq_false
def nY:=@Bool.false_ne_true
def uY:=@List.map_take
def zp:=@List.map_drop
def nk:=@List.pairwise_cons
def cU:=@List.mem_cons
def l7:=@List.length_cons
def awG:=@List.range_succ_eq_map
def mD:=@List.filter_cons
def qW:=@decide_eq_true
def we:=@List.map_map
def tv:=@decide_eq_false
def j2:=@List.map_cons
def pq:=@Array.getElem?_eq_some_iff
def M9:=@Array.getElem?_modify
def tu:=@Ne.symm
def bk:=@List.getElem?_eq_some_iff
def Cj:=@Array.getElem?_eq_getElem
def M8:=@Option.map_some
def bJ:=@List.getElem?_eq_getElem
def cM:=@Nat.le_refl
def qV:=@List.nodup_cons
def IH:=@List.mem_map_of_mem
def IG:=@List.filter_eq_self
def lB:=@decide_eq_true_eq
def T7:=@List.filter_congr
def oS:=@Bool.eq_iff_iff
def T6:=@Bool.not_eq_true'
def bI:=@Bool.and_eq_true
def afD:=@Bool.not_eq_true
def fk:=@List.mem_append
def gy:=@List.mem_singleton
def qg:=@List.length_eq_zero_iff
def oQ:=@List.drop_zero
def jc:=@List.take_of_length_le
def jR:=@List.all_eq_true
def uX:=@List.mem_filter
def qU:=@Nat.le_succ
def M7:=@Nat.lt_succ_self
def gS:=@List.length_append
def M6:=@List.length_singleton
def ky:=@List.map_append
def l6:=@List.append_assoc
def afC:=@Bool.eq_false_iff
def zn:=@List.take_zero
def jb:=@List.nil_append
def xH:=@List.drop_of_length_le
def zm:=@Nat.lt_of_not_le
def wc:=@Nat.le_of_ble_eq_true
def dL:=@List.mem_map
def EV:=@List.map_congr_left
def IF:=@Nat.eq_zero_or_pos
def po:=@Nat.add_zero
def afB:=@Array.getElem?_setIfInBounds
def qT:=@Nat.sub_self
def uW:=@List.getElem?_cons_succ
def iz:=@List.length_drop
def Ci:=@Nat.sub_mul
def fF:=@List.getElem?_drop
def nh:=@List.mem_of_mem_drop
def il:=@Nat.add_assoc
def eO:=@List.getElem?_take
def ng:=@Array.getElem?_toList
def IE:=@List.getElem_of_mem
def nf:=@List.getElem_mem
def wa:=@List.map_nil
def M5:=@Array.getElem?_append_left
def M4:=@List.getElem?_toArray
def T5:=@Nat.min_def
def dv:=@List.length_take
def tq:=@List.getElem?_append
def fG:=@Nat.min_eq_left
def ID:=@Array.getElem?_eq_none
def T4:=@Bool.or_eq_false_iff
def ku:=@List.length_map
def IC:=@Nat.mul_one
def Ch:=@Nat.lt_of_lt_of_le
def EU:=@List.range'_succ
def T3:=@List.range_eq_range'
def Cg:=@Array.ext'
def jj:=@Bool.true_and
def Cf:=@List.nodup_append
def ET:=@List.map_set
def IB:=@List.set_getElem_self
def iP:=@List.mem_append_left
def jw:=@List.mem_append_right
def nX:=@Nat.zero_mul
def fj:=@List.mem_cons_of_mem
def nc:=@List.getElem?_append_left
def kr:=@List.mem_cons_self
def nW:=@List.getElem?_append_right
def gz:=@Nat.add_mul
def j3:=@Bool.and_eq_true_iff
def tG:=@Bool.or_eq_true
def xb:=@Option.map_eq_some_iff
def PD:=@List.mem_or_eq_of_mem_set
def iy:=@List.length_set
def xa:=@List.cons_append
def asL:=@List.Sublist.append_left
def PC:=@List.sublist_append_right
def bF:=@List.mem_of_getElem?
def jv:=@Nat.mul_le_mul_right
def asM:=@Nat.min_eq_right
def mC:=@List.take_take
def oB:=@List.mem_of_mem_take
def qQ:=@List.flatten_cons
def asN:=@List.take_left
def asO:=@List.drop_left
def vC:=@List.take_append_drop
def PB:=@List.nil_sublist
def PA:=@Option.isSome_iff_exists
def qP:=@Classical.byContradiction
def vB:=@Option.ne_none_iff_exists'
def rZ:=@List.all_cons
def IU:=@List.length_nil
def Pz:=@Array.length_toList
def tF:=@List.drop_drop
def Ew:=@List.filter_append
def Eu:=@List.filter_eq_nil_iff
def wZ:=@List.eq_nil_of_length_eq_zero
def anQ:=@List.eq_nil_iff_forall_not_mem
def vA:=@Array.getD_eq_getD_getElem?
def wY:=@List.append_of_mem
def asQ:=@List.mem_range
def asR:=@Array.getElem?_replicate
def az:=@if_true
def IT:=@List.foldl_cons
def A5:=@List.mem_flatMap
def Py:=@Nat.le_add_right
def rY:=@Nat.zero_le
def asU:=@Option.some.injEq
def my:=@List.getElem?_map
def nj:=@List.take_length
def wX:=@List.drop_take
def vz:=@List.length_replicate
def lR:=@List.getElem?_set_self
def vy:=@List.set_set
def IS:=@List.length_pos_iff
def A4:=@List.set_append_right
def tE:=@List.drop_eq_getElem_cons
def qO:=@List.take_add_one
def IQ:=@List.take_left'
def asV:=@List.mapM_cons
def tD:=@beq_iff_eq
def tC:=@Nat.one_mul
def ai:=@Option.bind_some
def pK:=@List.ext_getElem?
def mw:=@List.getElem?_eq_none
def iw:=@bne_self_eq_false
def ay:=@Bool.false_eq_true
def aw:=@if_false
def Et:=@Nat.add_comm
def asX:=@List.take_succ_cons
def IP:=@List.take_length_add_append
def asa:=@List.Sublist.refl
def anP:=@List.drop_length_add_append
def anO:=@List.take_append_of_le_length
def anN:=@List.drop_append_of_le_length
def anM:=@List.append_eq_nil_iff
def Es:=@Nat.le_zero
def asi:=@Int.ofNat.inj
def asj:=@List.replicate_succ
def A0:=@UInt8.lt_irrefl
def Px:=@UInt8.not_lt
def aR:=@decide_false
def aO:=@decide_true
def gb:=@Bool.not_false
def cO:=@Bool.not_true
def ig:=@Bool.false_and
def lQ:=@Bool.eq_false_or_eq_true
def qN:=@Bool.and_self
def yP:=@Bool.and_false
def IN:=@List.take_succ
def Er:=@Option.toList_some
def asl:=@ByteArray.size_append
def gV:=@beq_self_eq_true
def asz:=@beq_eq_false_iff_ne
def Pw:=@decide_eq_decide
def avg:=@beq_false_of_ne
def ni:=@List.getElem?_set_ne
def lP:=@List.getElem?_of_mem
def avh:=@Int.toNat_of_nonneg
def AZ:=@List.pairwise_append
def IM:=@Int.toNat_natCast
def Ep:=@List.getElem?_set
def yO:=@List.getElem?_cons_zero
def anL:=@List.getLast?_eq_getElem?
def IL:=@List.getLast_mem
def avi:=@List.singleton_append
def avj:=@List.pairwise_map
def tz:=@List.pairwise_iff_getElem
def AY:=@Option.getD_some
def IK:=@Option.getD_none
def Pv:=@Option.map_none
def Eo:=@List.isEmpty_nil
def IJ:=@List.mem_iff_getElem
def anK:=@decide_eq_false_iff_not
def anJ:=@List.mem_of_find?_eq_some
def avk:=@List.find?_cons
def anI:=@List.pairwise_singleton
def wW:=@List.mem_filterMap
def anH:=@List.length_filterMap_le
def II:=@Int.ofNat_eq_natCast
inductive SI where
 |lit (n:Int)
 deriving Inhabited
def SI.ev (η:Nat->Int):SI->Int
 | .lit n=>n
def iV:UQ->UQ->Bool
 | .i8,.i8| .i16,.i16| .i32,.i32| .i64,.i64| .u8,.u8| .u16,.u16| .u32,.u32| .u64,.u64=>I
 |_,_=>U
def Lm:Int->Int->Bool
 | .ofNat a,.ofNat b=>Cz a b
 | .negSucc a,.negSucc b=>Cz a b
 |_,_=>U
def D5:Int->Int->Bool
 | .ofNat a,.ofNat b=>D' (a+1) b
 | .negSucc _,.ofNat _=>I
 | .ofNat _,.negSucc _=>U
 | .negSucc a,.negSucc b=>D' (b+1) a
def SI.eqb:SI->SI->Bool
 | .lit a,.lit b=>Lm a b
inductive Cp where
 |k (n:Nat)
 |u (e:Ey)
 deriving Inhabited
inductive SV where
 |bool (b:Bool)
 |int (k:UQ) (e:SI)
 |str (s:ByteArray)
 |ptr (id off:Nat)
 |wz
 |sl (id off n:Nat) (cap:Cp)
 |sle
 |bY
 |mp (id:Nat)
 |qA
 |fn (f:Fn) (first kL:List SV)
 |vM
 |kN (t:Ey) (v:SV)
 |re
 |agg (cs:List SV)
 |dh (vs:List SV)
 |undef
 deriving Inhabited
inductive Tr (Y:Type) where
 |nil
 |node (l:Tr Y) (v:Option Y) (r:Tr Y)
 deriving Inhabited
@[reducible] def aT {Y:Type} (b:Bool) (x y:Y):Y:= @Bool.rec (λ_=>Y) y x b
def Tr.get {Y:Type} (t:Tr Y):Nat->G Y:=
 @Tr.rec Y (λ_=>Nat->G Y) (λ_=>A) (λ_ v _ gl gr i=> @Bool.rec (λ_=>G Y) (@Bool.rec (λ_=>G Y) (gr (Hu (Ys i 2) 1)) (gl (Ys i 2)) (Cz (Ht i 2) 1)) v (Cz i 0)) t
def Tr.Ny {Y:Type} (n:Nat):Tr Y->Nat->G Y->Tr Y:=
 @Nat.rec (λ_=>Tr Y->Nat->G Y->Tr Y) (λt _ _=>t) (λ_ ih t i x=>
  @Tr.rec Y (λ_=>Tr Y)
   (@Bool.rec (λ_=>Tr Y) (@Bool.rec (λ_=>Tr Y) (.node .nil A (ih .nil (Hu (Ys i 2) 1) x)) (.node (ih .nil (Ys i 2) x) A .nil) (Cz (Ht i 2) 1)) (.node .nil x .nil) (Cz i 0))
   (λl v r _ _=> @Bool.rec (λ_=>Tr Y) (@Bool.rec (λ_=>Tr Y) (.node l v (ih r (Hu (Ys i 2) 1) x)) (.node (ih l (Ys i 2) x) v r) (Cz (Ht i 2) 1)) (.node l x r) (Cz i 0)) t) n
def Tr.set {Y:Type} (t:Tr Y) (i:Nat) (x:G Y):Tr Y:=Tr.Ny (S6 i) t i x
inductive SO where
 |cells (e:Ey) (cs:List SV)
 |map (es:List (SV×SV×Nat)) (clock:Nat)
 |qR (s:ByteArray) (pos:Nat)
 |mapIter (map:Option Nat) (since:Nat) (seen:List Nat) (aXA:Nat)
 |dfr
 |ro (cs:List SV)
 deriving Inhabited
structure FL where
 type:Ey
 off:Nat
 named:Bool
inductive UD where
 |bool|int (k:UQ)|string|pointer|slice (e:Ey)|array (n:Nat) (e:Ey)|map (k e:Ey)|struct (fs:List FL)|func|interface|other
 deriving Inhabited
structure TI where
 desc:UD
 size:Nat
 bytes:Nat
 zero:List SV
 comparable:Bool
 deriving Inhabited
structure Env where
 P:Y'
 ty:Tr TI
 fn:Tr Func
 lt:List (SI×SI×Bool)
 eq:List (SI×SI×Bool)
 done:List (Nat×SV):= []
 join:List Nat:= []
 Z4:List (Nat×Nat):= []
 memo:List Nat:= []
 stop:List Nat:= []
def GZ (E:Env):SI->SI->G Bool
 | .lit a,.lit b=>V (D5 a b)
def eqI (E:Env):SI->SI->G Bool
 | .lit x,.lit y=>V (Lm x y)
def pU {Y:Type} (P:Y'):Sem Y->G Y
 | .pure a=>V a
 | .program k=>pU P (k P)
 |_=>A
mutual
def xp:O'->SV
 | .bool b=>.bool b
 | .int k n=>.int k (.lit n)
 | .string s=>.str s
 | .pointer A=>.wz
 | .slice A 0 0=>.bY
 | .map A=>.qA
 | .nilFunc=>.vM
 | .nilIface=>.re
 | .agg ⟨cs⟩=>aT (cs.all Value.oneCell') (.agg (uO cs)) .undef
 | .tuple ⟨cs⟩=>.dh (uO cs)
 |_=>.undef
def uO:List O'->List SV
 | []=> []
 |v::vs=>xp v::uO vs
end
abbrev Hp:=Tr SO
abbrev Hf:=Nat->G SO
abbrev Up:=Nat×G SO
abbrev Tf:=Nat->G SV
abbrev iU:=List (SV×SV×Nat)
abbrev gZ:=G (SV×List Up)
abbrev bj:=List SV
abbrev bQ:=List Nat
abbrev ia:=List Up
abbrev oL:=List pw
abbrev fD:=Array pw
abbrev gq:=G SV
abbrev cC:=G Nat
abbrev gn:=List O'
abbrev jQ:=Array O'
abbrev M3:=Tr SV
def dy (tm:Tf):S'->gq
 | .tmp t=>tm t
 | .const v=>V (xp v)
 | .global _=>A
 | .func f=>V (.fn (.func f) [] [])
def SV.cells (x:SV):G bj:=match x with
 | .bool b=>V [.bool b]
 | .int k e=>V [.int k e]
 | .str s=>V [.str s]
 | .ptr i o=>V [.ptr i o]
 | .wz=>V [.wz]
 | .sl a b c d=>V [.sl a b c d]
 | .sle=>V [.sle]
 | .bY=>V [.bY]
 | .mp i=>V [.mp i]
 | .qA=>V [.qA]
 | .fn f a c=>V [.fn f a c]
 | .vM=>V [.vM]
 | .kN t v=>V [.kN t v]
 | .re=>V [.re]
 | .agg cs=>V cs
 |_=>A
def oj (d:UD):Bool:=match d with
 | .array _ _=>I
 | .struct _=>I
 |_=>U
def U4:SI->cC
 | .lit (.ofNat n)=>V n
 |_=>A
def aCi (x:SV):G (Nat×Nat×Nat×Cp):=match x with
 | .sl i o n c=>V (i,o,n,c)
 |_=>A
def ph (x:SV):cC:=match x with
 | .int _ e=>U4 e
 |_=>A
def vr (x:SV):G Bool:=match x with
 | .bool b=>V b
 |_=>A
def intOf (x:SV):G (UQ×SI):=match x with
 | .int k e=>V (k,e)
 |_=>A
def strOf (x:SV):G xN:=match x with
 | .str s=>V s
 |_=>A
def yf (x:SV):G (Nat×Nat):=match x with
 | .ptr i o=>V (i,o)
 |_=>A
def QE (x:SV):G bj:=match x with
 | .agg cs=>V cs
 |_=>A
def Ua (x:SV):G bj:=match x with
 | .dh cs=>V cs
 |_=>A
def aCD (x:SV):cC:=match x with
 | .mp i=>V i
 |_=>A
def SF (x:SV):cC:=match x with
 | .sl _ _ n _=>V n
 | .sle=>V 0
 | .bY=>V 0
 |_=>A
def NT (x:SV):Bool:=match x with
 | .sl _ _ _ _=>I
 | .sle=>I
 | .bY=>I
 |_=>U
def adt (x:SV):gq:=match x with
 | .ptr i o=>V (.ptr i o)
 | .fn f a c=>V (.fn f a c)
 |_=>A
def jr (i:TI) (cs:bj) (off:Nat):gq:=
 aT (oj i.desc) (aT (D' (E' off i.size) (O cs)) (V (.agg ((cs.drop off).take i.size))) A) (cs[off]?)
def eX (cs:bj) (off:Nat) (xs:bj):bj:=cs.take off++xs++cs.drop (E' off (O xs))
def aA {Y γ:Type} (x:G Y) (f:Y->G γ):G γ:= @Option.rec Y (λ_=>G γ) A f x
def cq {Y pp γ:Type} (x:G Y) (y:G pp) (f:Y->pp->G γ):G γ:= @Option.rec Y (λ_=>G γ) A (λa=> @Option.rec pp (λ_=>G γ) A (f a) y) x
def uQ {Y pp δ γ:Type} (x:G Y) (y:G pp) (z:G δ) (f:Y->pp->δ->G γ):G γ:=aA x λa=>cq y z λb c=>f a b c
def andThen (r:G Bool) (k:G Bool):G Bool:=
 match r with
 |some I=>k
 |r=>r
def LI (E:Env) (eq:Ey->SV->SV->G Bool) (xs ys:bj):List FL->G Bool
 | []=>V I
 |f::fs=>aT f.named (aA (E.ty.get f.type) λi=>cq (jr i xs f.off) (jr i ys f.off) λx y=>andThen (eq f.type x y) (LI E eq xs ys fs)) A
def aAv (x y:SV):G Bool:=cq (vr x) (vr y) λa b=>V (a==b)
def aTQ (E:Env) (x y:SV):G Bool:=cq (intOf x) (intOf y) λa b=>aT (iV a.1 b.1) (eqI E a.2 b.2) A
def vq:List UInt8->List UInt8->Bool
 | [],[]=>I
 |a::l,b::m=>Cz a.toNat b.toNat&&vq l m
 |_,_=>U
def HU (a b:xN):Bool:=vq a.data.toList b.data.toList
def eqStr (x y:SV):G Bool:=cq (strOf x) (strOf y) λa b=>V (HU a b)
def atn:SV->SV->G Bool
 | .wz,.wz=>V I
 | .wz,.ptr _ _=>V U
 | .ptr _ _,.wz=>V U
 |_,_=>A
def aEf:SV->SV->G Bool
 | .bY,.bY=>V I
 | .bY,.sl _ _ _ _=>V U
 | .sl _ _ _ _,.bY=>V U
 |_,_=>A
def ato:SV->SV->G Bool
 | .qA,.qA=>V I
 | .qA,.mp _=>V U
 | .mp _,.qA=>V U
 |_,_=>A
def aEi:SV->SV->G Bool
 | .vM,.vM=>V I
 | .vM,.fn _ _ _=>V U
 | .fn _ _ _,.vM=>V U
 |_,_=>A
def atp:SV->SV->G Bool
 | .re,.re=>V I
 | .re,.kN _ _=>V U
 | .kN _ _,.re=>V U
 |_,_=>A
def aBe (x y:SV):G (bj×bj):=cq (QE x) (QE y) λxs ys=>V (xs,ys)
def aEe (E:Env) (eq:Ey->SV->SV->G Bool) (t:Ey) (fs:List FL) (x y:SV):G Bool:=aA (aBe x y) λp=>aT (E.P.stoodInHeld t) A (LI E eq p.1 p.2 fs)
def eqD (d:UD):Env->(Ey->SV->SV->G Bool)->Ey->SV->SV->G Bool:=match d with
 | .bool=>λ_ _ _ x y=>aAv x y
 | .int _=>λE _ _ x y=>aTQ E x y
 | .string=>λ_ _ _ x y=>eqStr x y
 | .pointer=>λ_ _ _ x y=>atn x y
 | .slice _=>λ_ _ _ x y=>aEf x y
 | .map _ _=>λ_ _ _ x y=>ato x y
 | .struct fs=>λE eq t x y=>aEe E eq t fs x y
 | .func=>λ_ _ _ x y=>aEi x y
 | .interface=>λ_ _ _ x y=>atp x y
 |_=>λ_ _ _ _ _=>A
def eqT (E:Env) (n:Nat):Ey->SV->SV->G Bool:=
 @Nat.rec (λ_=>Ey->SV->SV->G Bool) (λ_ _ _=>A) (λ_ eq t x y=>aA (E.ty.get t) λi=>eqD i.desc E eq t x y) n
def isConst:S'->Bool
 | .const _=>I
 |_=>U
def aEh (E:Env) (t:Ey) (ox oy:S') (x:SV):Bool:=
 match x with
 | .re=>isConst ox||isConst oy
 | .agg _=> !E.P.eqGuardType E.P.depth t
 |_=>I
def LH (E:Env) (t:Ey) (ox oy:S') (x y:SV):G Bool:=aT (aEh E t ox oy x) (eqT E 20 t x y) A
def mS (neg:Bool) (r:G Bool):gq:=aA r λb=>V (.bool (aT neg (!b) b))
def K7 (r:G O'):gq:=aA r λv=>V (xp v)
def adw (E:Env) (op:Z6) (t:Ey) (k k':UQ):SI->SI->gq
 | .lit m,.lit n=>K7 (pU E.P (binOp op t (.int k m) (.int k' n)))
def Nh (k:UQ):SI->SI->SI
 | .lit m,.lit n=>.lit (k.wrap (m+n))
def Sb (k:UQ):SI->SI->SI
 | .lit m,.lit n=>.lit (k.wrap (m-n))
def asy (o:Z6):Env->Z6->Ey->UQ->UQ->SI->SI->gq:=match o with
 | .add=>λ_ _ _ k k2 a b=>aT (iV k k2) (V (.int k (Nh k a b))) A
 | .sub=>λ_ _ _ k k2 a b=>aT (iV k k2) (V (.int k (Sb k a b))) A
 | .eql=>λE _ _ k k2 a b=>aT (iV k k2) (mS U (eqI E a b)) A
 | .neq=>λE _ _ k k2 a b=>aT (iV k k2) (mS I (eqI E a b)) A
 | .lss=>λE _ _ k k2 a b=>aT (iV k k2) (mS U (GZ E a b)) A
 | .leq=>λE _ _ k k2 a b=>aT (iV k k2) (mS I (GZ E b a)) A
 | .gtr=>λE _ _ k k2 a b=>aT (iV k k2) (mS U (GZ E b a)) A
 | .geq=>λE _ _ k k2 a b=>aT (iV k k2) (mS I (GZ E a b)) A
 |_=>λE op t k k2 a b=>adw E op t k k2 a b
def arD (o:Z6):Env->Z6->Ey->xN->xN->gq:=match o with
 | .eql=>λ_ _ _ a b=>V (.bool (HU a b))
 | .neq=>λ_ _ _ a b=>V (.bool (!HU a b))
 |_=>λE op t a b=>K7 (pU E.P (binOp op t (.string a) (.string b)))
def aan (o:Z6):Env->Ey->S'->S'->SV->SV->gq:=match o with
 | .eql=>λE t ox oy x y=>mS U (LH E t ox oy x y)
 | .neq=>λE t ox oy x y=>mS I (LH E t ox oy x y)
 |_=>λ_ _ _ _ _ _=>A
def aAL (E:Env) (op:Z6) (t:Ey) (k:UQ) (a:SI) (y:SV):gq:=aA (intOf y) λp=>asy op E op t k p.1 a p.2
def aAK (E:Env) (op:Z6) (t:Ey) (a:xN) (y:SV):gq:=aA (strOf y) λb=>arD op E op t a b
def aEF (x:SV):Env->Z6->Ey->S'->S'->SV->SV->gq:=match x with
 | .int k a=>λE op t _ _ _ y=>aAL E op t k a y
 | .str a=>λE op t _ _ _ y=>aAK E op t a y
 |_=>λE op t ox oy x y=>aan op E t ox oy x y
def Ta (E:Env) (op:Z6) (t:Ey) (ox oy:S') (x y:SV):gq:=aEF x E op t ox oy x y
def adO (k:UQ):SI->SI
 | .lit n=>.lit (k.wrap n)
def aFx:SI->gq
 | .lit n=>V (.str (Utf8.encode n))
def arE:SV->gq
 | .str s=>V (.str s)
 | .int _ e=>aFx e
 |_=>A
def adP (d:UD):SV->gq:=match d with
 | .int k=>λx=>aA (intOf x) λp=>V (.int k (adO k p.2))
 | .string=>λx=>arE x
 |_=>λ_=>A
def Vr (E:Env) (src dst:Ey) (x:SV):gq:=cq (E.ty.get src) (E.ty.get dst) λ_ i=>adP i.desc x
def U7:UnOp->Bool
 | .not=>I
 |_=>U
def isNeg:UnOp->Bool
 | .neg=>I
 |_=>U
def unV (x:SV):UnOp->gq:=match x with
 | .bool b=>λop=>aT (U7 op) (V (.bool (!b))) A
 | .int k e=>λop=>aT (isNeg op) (V (.int k (Sb k (.lit 0) e))) A
 |_=>λ_=>A
def unA (op:UnOp) (x:SV):gq:=unV x op
def pj (place:Nat->G (Nat×Nat)) (cs:bj):List (Nat×bj)->G bj
 | []=>V cs
 |p::rest=>aA (place p.1) λq=>aT (Cz (O p.2) q.2&&D' (E' q.1 q.2) (O cs)) (pj place (eX cs q.1 p.2) rest) A
def np (tm:Tf):List (Nat×S')->G (List (Nat×bj))
 | []=>V []
 |p::rest=>aA (dy tm p.2) λv=>cq v.cells (np tm rest) λcs l=>V ((p.1,cs)::l)
def rep (z:bj):Nat->bj
 |0=> []
 |n+1=>z++rep z n
def UG (E:Env) (fs:List FL) (j:Nat):G (Nat×Nat):=aA (fs[j]?) λf=>aA (E.ty.get f.type) λfi=>V (f.off,fi.size)
def ve (size:Nat) (j:Nat):G (Nat×Nat):=V (N' j size,size)
def OK (r:G bj):gq:=aA r λcs=>V (.agg cs)
def Vv (d:UD):Env->bj->List (Nat×bj)->gq:=match d with
 | .array _ e=>λE z jH=>aA (E.ty.get e) λie=>OK (pj (ve ie.size) z jH)
 | .struct fs=>λE z jH=>OK (pj (UG E fs) z jH)
 |_=>λ_ _ _=>A
def OG (E:Env) (t:Ey) (jH:List (Nat×bj)):gq:=aA (E.ty.get t) λi=>Vv i.desc E i.zero jH
def ny:G SO->G (Ey×bj)
 |some (.cells e cs)=>V (e,cs)
 |_=>A
def MQ:SV->Bool
 | .undef=>I
 |_=>U
def xW:bj->Bool
 | []=>I
 |x::l=>aT (MQ x) U (xW l)
def jD (o:G SO) (off n:Nat):G (Ey×bj):=
 match o with
 |some (.cells e cs)=>V (e,cs)
 |some (.ro cs)=>aT (xW ((cs.drop off).take n)) (V (0,cs)) A
 |_=>A
def lx (h:Hf) (id off n:Nat):G bj:=aA (jD (h id) off n) λp=>aT (D' (E' off n) (O p.2)) (V ((p.2.drop off).take n)) A
def rowOf (x:SV):Hf->Nat->G bj:=match x with
 | .sl i o n _=>λh size=>lx h i o (N' n size)
 | .sle=>λ_ _=>V []
 | .bY=>λ_ _=>V []
 |_=>λ_ _=>A
def wide (i:TI):Nat:=aT (oj i.desc) i.size 1
def sy (E:Env) (h:Hf) (t:Ey) (v:SV):gq:=aA (yf v) λq=>aA (E.ty.get t) λi=>aA (jD (h q.1) q.2 (wide i)) λp=>jr i p.2 q.2
def xK (E:Env) (h:Hf) (t:Ey) (v:SV) (a:SV):G ia:=
 aA (yf a) λq=>uQ (E.ty.get t) v.cells (ny (h q.1)) λi xs p=>aT (Cz (O xs) i.size&&D' (E' q.2 (O xs)) (O p.2)) (V [(q.1,V (.cells p.1 (eX p.2 q.2 xs)))]) A
def EK (E:Env) (e:Ey) (id off n k:Nat):gq:=aT (D' (S6 k) n) (aA (E.ty.get e) λie=>V (.ptr id (E' off (N' k ie.size)))) A
def akC (d:UD):Env->SV->Nat->gq:=match d with
 | .slice e=>λE x k=>aA (aCi x) λq=>EK E e q.1 q.2.1 q.2.2.1 k
 | .array n e=>λE x k=>aA (yf x) λq=>EK E e q.1 q.2 n k
 |_=>λ_ _ _=>A
def sA (E:Env) (t:Ey) (x:SV) (k:Nat):gq:=aA (E.ty.get t) λi=>akC i.desc E x k
def kF (tm:Tf):G S'->G cC
 |none=>V A
 |some x=>aA (dy tm x) λv=>aA (ph v) λn=>V (V n)
def A6 (m:Cp) (l:Nat):Cp:=
 match m with
 | .k c=>.k (Hu c l)
 | .u e=>.u e
def BE (id off l h size:Nat) (m:Cp):SV:=aT (Cz l 0) (.sl id off h m) (aT (D' (S6 l) h) (.sl id (E' off (N' l size)) (Hu h l) (A6 m l)) .sle)
def Qe (mx:cC) (h reach:Nat):Bool:=
 match mx with
 |some m=>D' h m&&D' m reach
 |none=>I
def orC (a:cC) (b:Cp):Cp:=
 match a with
 |some m=>.k m
 |none=>b
def reach (c:Cp) (n:Nat):Nat:=
 match c with
 | .k m=>m
 | .u _=>n
def I2 (c:Cp) (e:Ey):Bool:=
 match c with
 | .k _=>I
 | .u e'=>Cz e' e
def xe (E:Env) (e:Ey) (id off n:Nat) (cap:Cp) (lo hi mx:cC):gq:=
 aA (E.ty.get e) λie=>aT (I2 cap e&&(D' (lo.getD 0) (hi.getD n)&&(D' (hi.getD n) (reach cap n)&&Qe mx (hi.getD n) (reach cap n)))) (V (BE id off (lo.getD 0) (hi.getD n) ie.size (orC mx cap))) A
def aht (s:xN) (lo hi mx:cC):gq:=
 match mx with
 |some _=>A
 |none=>aT (D' (lo.getD 0) (hi.getD s.size)&&D' (hi.getD s.size) s.size) (V (.str (s.extract (lo.getD 0) (hi.getD s.size)))) A
def pJ:cC->Bool
 |some n=>Cz n 0
 |none=>I
def Fc (x:SV):Env->Ey->cC->cC->cC->gq:=match x with
 | .sl i o n c=>λE e lo hi mx=>xe E e i o n c lo hi mx
 | .sle=>λ_ _ lo hi mx=>aT (pJ lo&&(pJ hi&&mx.isNone)) (V .sle) A
 | .bY=>λ_ _ lo hi mx=>aT (pJ lo&&(pJ hi&&pJ mx)) (V .bY) A
 |_=>λ_ _ _ _ _=>A
def ahu (d:UD):Env->SV->cC->cC->cC->gq:=match d with
 | .string=>λ_ x lo hi mx=>aA (strOf x) λs=>aht s lo hi mx
 | .slice e=>λE x lo hi mx=>aA (E.ty.get e) λ_=>Fc x E e lo hi mx
 | .array n e=>λE x lo hi mx=>aA (yf x) λq=>xe E e q.1 q.2 n (.k n) lo hi mx
 |_=>λ_ _ _ _ _=>A
def aGa (hi mx:cC):Bool:=
 match mx with
 |some _=>hi.isSome
 |none=>I
def zx (E:Env) (t:Ey) (x:SV) (lo hi mx:cC):gq:=aA (E.ty.get t) λi=>aT (aGa hi mx) (ahu i.desc E x lo hi mx) A
def JG (s:xN):bj:=s.data.toList.map λb=>.int .u8 (.lit b.toNat)
def Ct (h:Hf) (size:Nat) (x:SV):G (Nat×bj):=cq (SF x) (rowOf x h size) λn xs=>V (n,xs)
def srcV (x:SV):Hf->Nat->SV->G (Nat×bj):=match x with
 | .str b=>λ_ size _=>aT (Cz size 1) (V (b.size,JG b)) A
 |_=>λh size x=>Ct h size x
def pP (h:Hf) (size:Nat) (x:SV):G (Nat×bj):=srcV x h size x
def nv (ie:TI):Bool:=D' ie.bytes 65536&&(D' 1 ie.size&&Cz (O ie.zero) ie.size)
def D1 (new:Nat) (e:Ey) (n:Nat) (cs:bj) (us:ia):gZ:=V (.sl new 0 n (.u e),us++ [(new,V (.cells e cs))])
def adU (new:Nat) (e:Ey) (size id off n:Nat) (cap:Cp) (m:Nat) (xs:bj) (p:Ey×bj) (old:bj):gZ:=
 match cap with
 | .k c=>
  aT (D' (E' n m) c)
   (aT (D' (E' off (N' (E' n m) size)) (O p.2)) (V (.sl id off (E' n m) cap,[(id,V (.cells p.1 (eX p.2 (E' off (N' n size)) xs)))])) A)
   (D1 new e (E' n m) (old++xs) [])
 | .u _=>aT (D' (E' off (N' n size)) (O p.2)&&Cz e p.1) (D1 new e (E' n m) (old++xs) [(id,A)]) A
def adF (n m:Nat):Cp->Bool
 | .k c=>D' (S6 c) (E' n m)
 | .u _=>U
def HA (h:Hf) (new:Nat) (e:Ey) (size m:Nat) (xs:bj) (id off n:Nat) (cap:Cp):gZ:=aT (D' n 1000000) (aT (adF n m cap) (aA (lx h id off (N' n size)) λold=>D1 new e (E' n m) (old++xs) []) (cq (ny (h id)) (lx h id off (N' n size)) λp old=>adU new e size id off n cap m xs p old)) A
def sK (x:SV):Hf->Nat->Ey->Nat->Nat->bj->gZ:=match x with
 | .sl i o n c=>λh new e size m xs=>HA h new e size m xs i o n c
 | .bY=>λ_ new e _ m xs=>D1 new e m xs []
 |_=>λ_ _ _ _ _ _=>A
def QC (E:Env) (h:Hf) (new:Nat) (e:Ey) (s x:SV):gZ:=
 aA (E.ty.get e) λie=>aT (nv ie) (aA (pP h ie.size x) λq=>aT (D' q.1 1000000) (aT (Cz q.1 0) (aT (NT s) (V (s,[])) A) (sK s h new e ie.size q.1 q.2)) A) A
def px (d:UD):G Ey:=match d with
 | .slice e=>V e
 |_=>A
def nD (E:Env) (h:Hf) (new:Nat) (t:Ey) (s x:SV):gZ:=aA (E.ty.get t) λi=>aA (px i.desc) λe=>QC E h new e s x
def JE (h:Hf) (size n:Nat) (xs:bj) (id off:Nat):gZ:=aA (ny (h id)) λp=>aT (D' (E' off (N' n size)) (O p.2)) (V (.int .i64 (.lit (.ofNat n)),[(id,V (.cells p.1 (eX p.2 off (xs.take (N' n size)))))])) A
def F4 (x:SV):Hf->Nat->Nat->bj->gZ:=match x with
 | .sl i o _ _=>λh size n xs=>JE h size n xs i o
 | .sle=>λ_ _ n _=>V (.int .i64 (.lit (.ofNat n)),[])
 | .bY=>λ_ _ n _=>V (.int .i64 (.lit (.ofNat n)),[])
 |_=>λ_ _ _ _=>A
def atB (E:Env) (h:Hf) (e:Ey) (d s:SV):gZ:=
 aA (E.ty.get e) λie=>aT (nv ie) (cq (SF d) (pP h ie.size s) λnd q=>F4 d h ie.size (aT (D' q.1 nd) q.1 nd) q.2) A
def B8 (E:Env) (h:Hf) (t:Ey) (d s:SV):gZ:=aA (E.ty.get t) λi=>aA (px i.desc) λe=>atB E h e d s
def Jo (d:UD):Bool:=match d with
 | .string=>I
 |_=>U
def Qm (d:UD):Bool:=match d with
 | .bool=>I
 |_=>U
def isLit:SI->Bool
 | .lit _=>I
def Ya (k:UQ):UD->Bool
 | .int k'=>iV k k'
 |_=>U
def NN (x:SV):UD->Bool:=match x with
 | .bool _=>λd=>Qm d
 | .int k e=>λd=>isLit e&&Ya k d
 | .str _=>λd=>Jo d
 |_=>λ_=>U
def aFw:SI->SI->G Bool
 | .lit a,.lit b=>V (Lm a b)
def sameKey (x:SV):SV->G Bool:=match x with
 | .bool a=>λy=>aAv (.bool a) y
 | .int k a=>λy=>aA (intOf y) λp=>aT (iV k p.1) (aFw a p.2) A
 | .str a=>λy=>eqStr (.str a) y
 |_=>λ_=>A
def sE (k:SV):iU->Nat->G (G (Nat×SV×Nat))
 | [],_=>V A
 |e::es,i=>
  match sameKey k e.1 with
  |some I=>V (V (i,e.2.1,e.2.2))
  |some U=>sE k es (E' i 1)
  |none=>A
def ln:G SO->G (iU×Nat)
 |some (.map es c)=>V (es,c)
 |_=>A
def ajr (x:SV):Hf->G iU:=match x with
 | .mp i=>λh=>aA (ln (h i)) λp=>V p.1
 | .qA=>λ_=>V []
 |_=>λ_=>A
def MP (ok:Bool) (v:SV) (b:Bool):SV:=aT ok (.dh [v,.bool b]) v
def Oj (ok:Bool) (z:gq):G (Nat×SV×Nat)->gq
 |some r=>V (MP ok r.2.1 I)
 |none=>aA z λz=>V (MP ok z U)
def H5 (d:UD):G (Ey×Ey):=match d with
 | .map k e=>V (k,e)
 |_=>A
def xl (E:Env) (h:Hf) (t:Ey) (x k:SV) (ok:Bool):gq:=
 aA (E.ty.get t) λi=>aA (H5 i.desc) λq=>cq (E.ty.get q.1) (E.ty.get q.2) λik ie=>aT (NN k ik.desc) (aA (ajr x h) λes=>aA (sE k es 0) λr=>Oj ok (jr ie ie.zero 0) r) A
def SZ (es:iU) (c:Nat) (k v:SV):G (Nat×SV×Nat)->SO
 |some r=>.map (es.set r.1 (k,v,r.2.2)) c
 |none=>.map (es++ [(k,v,c)]) (E' c 1)
def Dc (E:Env) (h:Hf) (t:Ey) (x k v:SV):G ia:=
 aA (aCD x) λid=>aA (E.ty.get t) λi=>aA (H5 i.desc) λq=>cq (E.ty.get q.1) (ln (h id)) λik p=>aT (NN k ik.desc) (aA (sE k p.1 0) λr=>V [(id,V (SZ p.1 p.2 k v r))]) A
def xC (n:Nat):SV:=.int .i64 (.lit (.ofNat n))
def aCL (x:SV):Hf->gq:=match x with
 | .mp i=>λh=>aA (ln (h i)) λp=>V (xC (O p.1))
 | .qA=>λ_=>V (xC 0)
 |_=>λ_=>A
def Dk (d:UD):SV->Hf->gq:=match d with
 | .string=>λx _=>aA (strOf x) λs=>V (xC s.size)
 | .slice _=>λx _=>aA (SF x) λn=>V (xC n)
 | .array n _=>λ_ _=>V (xC n)
 | .map _ _=>λx h=>aCL x h
 |_=>λ_ _=>A
def gN (tm:Tf):List S'->G bj
 | []=>V []
 |x::xs=>cq (dy tm x) (gN tm xs) λv l=>V (v::l)
def same (r:gq):gZ:=aA r λv=>V (v,[])
def unit (r:G ia):gZ:=aA r λus=>V (.dh [],us)
def one (tm:Tf) (x:S') (f:SV->gZ):gZ:=aA (dy tm x) f
def two (tm:Tf) (x y:S') (f:SV->SV->gZ):gZ:=cq (dy tm x) (dy tm y) f
def aKi (E:Env) (new:Nat) (e:Ey):gZ:=aA (E.ty.get e) λi=>V (.ptr new 0,[(new,V (.cells e i.zero))])
def asc (new:Nat) (e:Ey) (v:SV):gZ:=aA v.cells λcs=>V (.ptr new 0,[(new,V (.cells e cs))])
def rb (E:Env) (new:Nat) (t:Ey) (len:Nat) (jH:List (Nat×bj)):gZ:=
 aA (E.ty.get t) λi=>aA (px i.desc) λe=>aA (E.ty.get e) λie=>
  aT (nv ie&&D' (N' len ie.size) 16777216) (aA (pj (ve ie.size) (rep ie.zero len) jH) λcs=>V (.sl new 0 len (.k len),[(new,V (.cells e cs))])) A
def G3 (d:UD):Bool:=match d with
 | .interface=>I
 |_=>U
def ads (E:Env) (t:Ey) (v:SV):gZ:=aA (E.ty.get t) λi=>aT (G3 i.desc) A (V (.kN t v,[]))
def OJ:Fn->Bool
 | .func _=>I
 |_=>U
def aMx (tm:Tf) (f:Fn) (a c:List S'):gZ:=aT (OJ f) (cq (gN tm a) (gN tm c) λl m=>V (.fn f l m,[])) A
def ail (new:Nat):gZ:=V (.mp new,[(new,V (.map [] 0))])
def aSd (E:Env) (tm:Tf) (new:Nat) (t:Ey):G S'->gZ
 |none=>ail new
 |some x=>cq (E.ty.get t) (dy tm x) λi v=>cq (H5 i.desc) (ph v) λ_ _=>ail new
def Jh (E:Env) (new:Nat) (t:Ey) (l c:Nat):gZ:=
 aA (E.ty.get t) λi=>aA (px i.desc) λe=>aA (E.ty.get e) λie=>
  aT (D' l c&&(D' c 1000000&&nv ie)) (V (.sl new 0 l (.k c),[(new,V (.cells e (rep ie.zero c)))])) A
def A7 (d:UD):G (List FL):=match d with
 | .struct fs=>V fs
 |_=>A
def sU (E:Env) (s:Ey) (f:Nat) (v:SV):gZ:=
 cq (E.ty.get s) (yf v) λi p=>aA (A7 i.desc) λfs=>aA (fs[f]?) λfl=>aA (E.ty.get fl.type) λfi=>aT (D' 1 fi.size) (V (.ptr p.1 (E' p.2 fl.off),[])) A
def EH (E:Env) (t:Ey) (f:Nat) (v:SV):gZ:=
 cq (E.ty.get t) (QE v) λi cs=>aA (A7 i.desc) λfs=>aA (fs[f]?) λfl=>aA (E.ty.get fl.type) λfi=>same (jr fi cs fl.off)
def aiL (d:UD):Env->Nat->SV->gZ:=match d with
 | .string=>λ_ k v=>aA (strOf v) λs=>aA (s.data.toList[k]?) λb=>V (.int .u8 (.lit (.ofNat b.toNat)),[])
 | .array n e=>λE k v=>cq (QE v) (E.ty.get e) λcs ie=>aT (D' (S6 k) n) (same (jr ie cs (N' k ie.size))) A
 |_=>λ_ _ _=>A
def Bu (E:Env) (t:Ey) (k:Nat) (v:SV):gZ:=aA (E.ty.get t) λi=>aiL i.desc E k v
def aye (x:SV):Hf->G SO:=match x with
 | .mp i=>λh=>aA (ln (h i)) λp=>V (.mapIter (V i) p.2 [] p.2)
 | .qA=>λ_=>V (.mapIter A 0 [] 0)
 |_=>λ_=>A
def Jd (d:UD) (v:SV) (h:Hf):G SO:=
 match d with
 | .string=>aA (strOf v) λs=>V (.qR s 0)
 | .map _ _=>aye v h
 |_=>A
def Bt (E:Env) (h:Hf) (new:Nat) (t:Ey) (v:SV):gZ:=aA (E.ty.get t) λi=>aA (Jd i.desc v h) λo=>V (.ptr new 0,[(new,V o)])
def Ql:G SO->G (xN×Nat)
 |some (.qR s p)=>V (s,p)
 |_=>A
def anG (v:SV):cC:=aA (yf v) λq=>aT (Cz q.2 0) (V q.1) A
def Jj (id:Nat) (p:xN×Nat):SV×ia:=
 aT (D' (S6 p.2) p.1.size) (.dh [.bool I,xC p.2,.int .i32 (.lit (Lg p.1 p.2).1)],[(id,V (.qR p.1 (E' p.2 (Lg p.1 p.2).2)))]) (.dh [.bool U],[])
def Fq (h:Hf) (DG:Bool) (v:SV):gZ:=aT DG (aA (anG v) λid=>aA (Ql (h id)) λp=>V (Jj id p)) A
def LC (i:TI) (ok:Bool):gq:=aT ok (aA (jr i i.zero 0) λz=>V (.dh [z,.bool U])) A
def asserted (x:SV):Ey->TI->Bool->gq:=match x with
 | .kN t2 u=>λt i ok=>aT (Cz t2 t) (V (MP ok u I)) (LC i ok)
 | .re=>λ_ i ok=>LC i ok
 |_=>λ_ _ _=>A
def La (E:Env) (t:Ey) (ok:Bool) (v:SV):gZ:=aA (E.ty.get t) λi=>aT (G3 i.desc) A (same (asserted v t i ok))
def U3 (E:Env) (mx:Bool) (x y:SV):gq:=cq (intOf x) (intOf y) λa b=>aA (aT mx (GZ E a.2 b.2) (GZ E b.2 a.2)) λr=>V (.int a.1 (aT r b.2 a.2))
def Bn:UD->Bool
 | .slice _=>I
 | .string=>I
 |_=>U
def yF {Y:Type}:List Y->G (Y×Y)
 | [a,b]=>V (a,b)
 |_=>A
def oF (E:Env) (h:Hf) (new:Nat) (b:Builtin) (aa:bj) (ts:List Ey):gZ:=
 match b with
 | .len=>cq aa.head? ts.head? λx t=>aT (Cz (O aa) 1) (aA (E.ty.get t) λi=>same (Dk i.desc x h)) A
 | .append=>cq (yF aa) (yF ts) λp q=>aA (E.ty.get q.2) λi=>aT (Bn i.desc) (nD E h new q.1 p.1 p.2) A
 | .copy=>cq (yF aa) ts.head? λp t=>B8 E h t p.1 p.2
 | .min=>aA (yF aa) λp=>same (U3 E U p.1 p.2)
 | .max=>aA (yF aa) λp=>same (U3 E I p.1 p.2)
 |_=>A
def qj (E:Env) (tm:Tf) (h:Hf) (new:Nat) (c:Call):gZ:=
 match c.callee with
 | .builtin b=>aA (gN tm c.args.toList) λaa=>oF E h new b aa c.argTypes.toList
 |_=>A
def opD (o:Op):Env->Tf->Hf->Nat->gZ:=match o with
 | .move x=>λ_ tm _ _=>one tm x λv=>V (v,[])
 | .assign x=>λ_ tm _ _=>one tm x λv=>V (v,[])
 | .pick c x y=>λ_ tm _ _=>aA (dy tm c) λv=>aA (vr v) λb=>one tm (aT b x y) λv=>V (v,[])
 | .alloc e=>λE _ _ new=>aKi E new e
 | .box e x=>λ_ tm _ new=>one tm x (asc new e)
 | .build t jp=>λE tm _ _=>aA (np tm jp.toList) λjH=>same (OG E t jH)
 | .buildSlice t len jp=>λE tm _ new=>aA (np tm jp.toList) λjH=>rb E new t len jH
 | .insert t m k x=>λE tm h _=>two tm m k λa b=>one tm x λc=>unit (Dc E h t a b c)
 | .load t x=>λE tm h _=>one tm x λv=>same (sy E h t v)
 | .store t x y=>λE tm h _=>two tm x y λa v=>unit (xK E h t v a)
 | .nilCheck x=>λ_ tm _ _=>one tm x λv=>same (adt v)
 | .binOp op t x y _=>λE tm _ _=>two tm x y λv u=>same (Ta E op t x y v u)
 | .unOp op _ x=>λ_ tm _ _=>one tm x λv=>same (unA op v)
 | .convert s d x=>λE tm _ _=>one tm x λv=>same (Vr E s d v)
 | .makeFunc f a c=>λ_ tm _ _=>aMx tm f a.toList c.toList
 | .makeMap t r=>λE tm _ new=>aSd E tm new t r
 | .makeSlice t l c=>λE tm _ new=>two tm l c λu v=>cq (ph u) (ph v) (Jh E new t)
 | .slice t x lo hi mx=>λE tm _ _=>one tm x λv=>uQ (kF tm lo) (kF tm hi) (kF tm mx) λl u m=>same (zx E t v l u m)
 | .fieldAddr s x f=>λE tm _ _=>one tm x (sU E s f)
 | .field t x f=>λE tm _ _=>one tm x (EH E t f)
 | .indexAddr t x ix=>λE tm _ _=>two tm x ix λv u=>aA (ph u) λk=>same (sA E t v k)
 | .index t x ix=>λE tm _ _=>two tm x ix λv u=>aA (ph u) λk=>Bu E t k v
 | .lookup t x k ok=>λE tm h _=>two tm x k λa b=>same (xl E h t a b ok)
 | .mapUpdate t m k x=>λE tm h _=>two tm m k λa b=>one tm x λc=>unit (Dc E h t a b c)
 | .range t x=>λE tm h new=>one tm x (Bt E h new t)
 | .next it DG=>λ_ tm h _=>one tm it (Fq h DG)
 | .makeInterface t x=>λE tm _ _=>one tm x (ads E t)
 | .typeAssert x _ t ok=>λE tm _ _=>one tm x (La E t ok)
 | .extract x i=>λ_ tm _ _=>one tm x λv=>aA (Ua v) λvs=>same (vs[i]?)
 | .call c=>λE tm h new=>qj E tm h new c
 |_=>λ_ _ _ _=>A
def vf (E:Env) (op:Op) (tm:Tf) (h:Hf) (new:Nat):gZ:=opD op E tm h new
inductive Ex where
 |normal|exit (id:Nat)|ret|AM (v:SV)
 deriving Inhabited
def setArgs (vs:bj):Nat->M3->M3:= @List.rec SV (λ_=>Nat->M3->M3) (λ_ t=>t) (λv _ ih i t=>ih (E' i 1) (t.set i (V v))) vs
def ot (nt:Nat) (d:cC):Bool:= @Option.rec Nat (λ_=>Bool) I (λd=>D' (S6 d) nt) d
def aRV (x:SV):Bool->G Bool:=match x with
 | .bool b=>λwant=>V (b==want)
 | .dh _=>λ_=>V U
 |_=>λ_=>A
def arq (want:Bool) (x:SV):G Bool:=aRV x want
def ND (l:oL):Nat->cC:= @List.rec pw (λ_=>Nat->cC) (λ_=>A) (λo _ ih j=> @Nat.rec (λ_=>cC) o.dst (λk _=>ih k) j) l
def yR (i6:oL) (tm:Tf) (j:Nat) (want:Bool):G Bool:= @Option.rec Nat (λ_=>G Bool) (V U) (λt=>aA (tm t) (arq want)) (ND i6 j)
def kI (i6:oL) (o:pw) (tm:Tf):G Bool:= @Option.rec (Nat×Bool) (λ_=>G Bool) (V I) (λg=>yR i6 tm g.1 g.2) o.guard
def Uw (E:Env) (tm:Tf) (h:Hf):NR->gq
 | .tmp t=>tm t
 | .cell t ty=>aA (tm t) (sy E h ty)
def Bo (E:Env) (tm:Tf) (h:Hf):List NR->G bj
 | []=>V []
 |r::rs=>cq (Uw E tm h r) (Bo E tm h rs) λv l=>V (v::l)
def oneOf:bj->SV
 | [v]=>v
 |vs=>.dh vs
def EL:List UInt8->List UInt8->Bool
 | [],[]=>U
 | [],_::_=>I
 |_::_,[]=>U
 |a::l,b::m=>aT (D' (S6 a.toNat) b.toNat) I (aT (Cz a.toNat b.toNat) (EL l m) U)
def OD (a b:xN):Int:=aT (EL a.data.toList b.data.toList) (-1) (aT (vq a.data.toList b.data.toList) 0 1)
def leave (id:Nat) (e:Ex):Ex:= @Ex.rec (λ_=>Ex) .normal (λid'=>aT (Cz id' id) .normal (.exit id')) .ret (λv=>.AM v) e
def Yf (E:Env):SV->Bool
 | .fn (.func k) _ _=> @Option.rec Func (λ_=>Bool) U (λfn=>fn.body.isSome) (E.fn.get k)
 |_=>U
def BG (tm:Tf):Callee->gq
 | .value x=>dy tm x
 |_=>A
def Lf (x:Nat):bQ->Bool
 | []=>U
 |y::l=>aT (Cz x y) I (Lf x l)
def rH (ol:bQ) (es:iU):iU:=es.filter λe=> !Lf e.2.2 ol
def iterM (since:Nat) (ol:bQ) (last c:Nat) (es:iU):Bool:=
 es.all (λe=>D' (S6 e.2.2) since)&&D' since last
def Qj:bQ->cC
 | []=>A
 | [a]=>V a
 |_::l=>Qj l
def Hj (b:Nat):iU->gq
 | []=>A
 |e::es=>aT (Cz e.2.2 b) (V (.dh [e.1,e.2.1])) (Hj b es)
def Ot (h:Hf) (id:Nat):gq:=
 match h id with
 |some (.mapIter (V m) since ol last)=>
  (match h m with
  |some (.map es c)=>aT (Cz c last) (aA (Qj ol) λb=>Hj b es) A
  |_=>A)
 |_=>A
def force {pp:Type} (m:Nat) (f:Nat->pp):pp:=Nat.rec (f 0) (λk _=>f (k+1)) m
def Ii (o:pw):bQ:=(o.after.toList.filter (Region.binds .any ·)).map (·.on)
def awI (ac vQ:Nat):bQ->Nat
 | []=>0
 |i::ds=>Nat.lor (awI ac vQ ds) (Nat.lor (Nat.shiftLeft 1 i) (Ht (Nat.shiftRight vQ (N' i ac)) (Nat.pow 2 ac)))
def bitB (m i:Nat):Bool:=Cz (Nat.land (Nat.shiftRight m i) 1) 1
def nN (x:Nat):bQ->Bool
 | []=>U
 |y::l=>aT (Cz x y) I (nN x l)
def xn:bQ->bQ->Bool
 | [],_=>I
 |x::l,m=>aT (nN x m) U (xn l m)
def lW:gq->bQ
 |some (.ptr i _)=> [i]
 |some (.sl i _ _ _)=> [i]
 |some (.mp i)=> [i]
 |_=> []
def rI (tm:Tf):List S'->bQ
 | []=> []
 |x::xs=>lW (dy tm x)++rI tm xs
def idM:gq->bQ
 |some (.mp i)=> [i]
 |_=> []
def Lo (tm:Tf):List S'->bQ
 | []=> []
 |x::xs=>idM (dy tm x)++Lo tm xs
def wE (c:Call):Bool:=
 match c.callee with
 | .builtin .len=>I
 |_=>U
def P8 (op:Op) (tm:Tf):bQ:=
 match op with
 | .load _ x=>rI tm [x]
 | .store _ x y=>rI tm [x,y]
 | .lookup _ x k _=>rI tm [x,k]
 | .mapUpdate _ m k x=>rI tm [m,k,x]
 | .insert _ m k x=>rI tm [m,k,x]
 | .next it _=>rI tm [it]
 | .range _ x=>rI tm [x]
 | .call c=>aT (wE c) (Lo tm c.args.toList) (rI tm c.args.toList)
 |_=> []
def SL:List S'->bQ
 | []=> []
 |x::xs=>(match x with| .tmp t=>t::SL xs|_=>SL xs)
def looks (all:oL) (o:pw):bQ:=SL o.op.operands.toList++(match o.guard with|some g=>(ND all g.1).toList|none=> [])
def Us (all:oL) (p r:pw):Bool:=xn p.dst.toList (looks all r)&&(xn r.dst.toList (looks all p)&&xn p.dst.toList r.dst.toList)
def ad4 (all:oL) (m:Nat) (r:pw):Nat->oL->Bool
 |_,[]=>I
 |k,p::ps=>aT (bitB m k) (ad4 all m r (Hu k 1) ps) (aT (Us all p r) (ad4 all m r (Hu k 1) ps) U)
def aoE (ac:Nat) (all:oL):oL->Nat->Nat->oL->Bool
 | [],_,_,_=>I
 |o::l,i,vQ,prev=>force (Ht (awI ac vQ (Ii o)) (Nat.pow 2 ac)) λm=>aT (ad4 all m o (Hu i 1) prev) (force (Nat.lor vQ (Nat.shiftLeft m (N' i ac))) λM'=>aoE ac all l (E' i 1) M' (o::prev)) U
def codeOk (c:Code):Bool:= @Code.rec (λ_=>Bool) I (λ_ i6 draw=>aT draw (aoE i6.size i6.toList i6.toList 0 0 []) I) (λ_ _ a b=>a&&b) (λ_ _ _ a b=>a&&b) (λ_ _ a=>a) (λ_ a=>a) (λ_ _ _ _ a b=>a&&b) (λ_=>I) (λ_ a=>a) (λ_=>I) (λ_=>I) I (λ_=>I) c
def asY (fn:Func):Bool:= @Option.rec Code (λ_=>Bool) I codeOk fn.body
def aIe (e:Ex):G gq:= @Ex.rec (λ_=>G gq) (V A) (λ_=>A) (V A) (λv=>V (V v)) e
def NU (s:String):Bool:=s== "runtime.NumGoroutine"
def U6 (e:Ex):Bool:= @Ex.rec (λ_=>Bool) I (λ_=>U) I (λ_=>U) e
def uG (e:Ex):Bool:= @Ex.rec (λ_=>Bool) I (λ_=>U) U (λ_=>U) e
def Dr (rt B C:Nat) (svs:bj):bj:=svs.take rt++((svs.drop B).take (Hu C B)++(Va (Hu B rt) .undef++svs.drop C))
def Dn {Y:Type} (xs:List Y) (k:Nat) (ys:List Y):List Y:=xs.take k++(ys++xs.drop k)
def YW (off len sz:Nat):Cp->Bool
 | .k m=>D' (E' off (N' m sz)) len
 | .u _=>I
def YM (sz:Nat) (f:Hf):bj->gZ
 | [.sl id off n c,.int .i64 a,.int .i64 b]=>uQ (U4 a) (U4 b) (ny (f id)) λi j p=>
   aT (D' (S6 i) j&&(D' j n&&D' (E' off (N' n sz)) (O p.2))) (V (.sl id off (Hu n (Hu j i)) c,[(id,V (.cells p.1 (Dr (E' off (N' i sz)) (E' off (N' j sz)) (E' off (N' n sz)) p.2)))])) A
 |_=>A
def Z2 (e:Ey) (sz:Nat) (f:Hf) (new:Nat):bj->gZ
 | [.sl id off n c,.int .i64 a,.sl G5 yv q c2]=>uQ (U4 a) (ny (f id)) (ny (f G5)) λi p p2=>
   aT (D' i n&&(D' 1 q&&(D' n 1000000&&(D' q 1000000&&(!Cz id G5&&(Cz p.1 e&&(D' (E' off (N' n sz)) (O p.2)&&(D' (E' yv (N' q sz)) (O p2.2)&&YW off (O p.2) sz c))))))))
    (V (.sl new 0 (E' n q) (.u e),[(id,A),(new,V (.cells e (Dn ((p.2.drop off).take (N' n sz)) (N' i sz) ((p2.2.drop yv).take (N' q sz)))))])) A
 |_=>A
def Dm (x:Int):List Int->List Int
 | []=> [x]
 |y::ys=>if x<=y then x::y::ys else y::Dm x ys
def dJ:List Int->List Int
 | []=> []
 |x::xs=>Dm x (dJ xs)
def mO:List Int->List Int
 | []=> []
 |x::xs=>match xs with
  | []=> [x]
  |y::_=>if x=y then mO xs else x::mO xs
def ddZ (xs:List Int):List Int:=mO xs++Va (O xs-O (mO xs)) 0
def D4 (b:Bool) (xs:List Int):List Int:=aT b (dJ xs) (ddZ xs)
def NO:SV->G Int
 | .int .i64 (.lit x)=>V x
 |_=>A
def Ll (l:bj):G (List Int):= @List.rec SV (λ_=>G (List Int)) (V []) (λv _ ih=>cq (NO v) ih λx r=>V (x::r)) l
def fV (l:List Int):bj:=l.map λx=>.int .i64 (.lit x)
def adA (b:Bool) (f:Hf):bj->gZ
 | [.bY]=>V (aT b (.dh []) .bY,[])
 | [.sl id off n c]=>aT (Cz n 0) (V (aT b (.dh []) (.sl id off 0 c),[])) (aA (ny (f id)) λp=>aA (Ll ((p.2.drop off).take n)) λxs=>
   aT (D' 1 n&&(D' (E' off n) (O p.2)&&D' n 4294967295)) (V (aT b (.dh []) (.sl id off (O (mO xs)) c),[(id,V (.cells p.1 (p.2.take off++(fV (D4 b xs)++p.2.drop (E' off n)))))])) A)
 |_=>A
def xh (E:Env) (c:Nat) (f:Hf) (new:Nat) (aa:bj):gZ:=
 aT (D' 1048576 c) (adA (Cz c 1048576) f aa) (aA (E.ty.get (Ys c 2)) λie=>aT (Cz (Ht c 2) 0) (YM ie.size f aa) (Z2 (Ys c 2) ie.size f new aa))
def K8 (k:Nat):List (Nat×Nat)->cC
 | []=>A
 |p::l=>aT (Cz p.1 k) (V p.2) (K8 k l)
end Go.bM
namespace Go.bM
open Go.RowKit
variable {Y γ pp:Type} {x ox:S'} {r z v u u1:O'} {a:Act} {c nt o n i off k l new vQ:Nat} {w' w0:World} {e t tx ty:Ey} {p:xN×Nat} {s:xN} {q fz:Nat×Nat} {neg:Bool} {ob:Obj} {jp:Array (Nat×O')} {it:TypeInfo} {kl kk:UQ} {lo:G S'} {base:G Addr}
section
variable {δ:Type} {w:World}
def cx (b:Bool) (x y:Y):aT b x y=if b=I then x else y:=by cases b<;>rfl
def bf {b:Bool} {x:G Y} {r:Y} (h:aT b x A=V r):b=I/\x=V r:=by
 cases b
 .simp[aT] at h
 .exact ⟨rfl,h⟩
def ak {x:G Y} {f:Y->G γ} {r:γ} (h:aA x f=V r):∃a,x=V a/\f a=V r:=by
 cases x with
 |none=>cases h
 |some a=>exact ⟨a,rfl,h⟩
def bV {x:G Y} {y:G pp} {f:Y->pp->G γ} {r:γ} (h:cq x y f=V r):∃a b,x=V a/\y=V b/\f a b=V r:=by
 cases x with
 |none=>cases h
 |some a=>
  cases y with
  |none=>cases h
  |some b=>exact ⟨a,b,rfl,rfl,h⟩
def Ed {x:G Y} {y:G pp} {z:G δ} {f:Y->pp->δ->G γ} {r:γ} (h:uQ x y z f=V r):∃a b c,x=V a/\y=V b/\z=V c/\f a b c=V r:=by
 let ⟨a,ha,h⟩:=ak h;let ⟨b,c,hb,hc,h⟩:=bV h;exact ⟨a,b,c,ha,hb,hc,h⟩
def f9 (a b:Nat):Cz a b=I↔a=b:=⟨Nat.eq_of_beq_eq_true,λh=>by subst h;exact Nat.beq_refl a⟩
def beq_eq (a b:Nat):Cz a b=A' (a=b):=by
 rw[oS,f9];simp
def bO (a b:Nat):D' a b=I↔a<=b:=by rw[Nat.ble_eq]
def ble_eq (a b:Nat):D' a b=A' (a<=b):=by
 rw[oS,bO];simp
def Tr.get_nil (i:Nat):(Tr.nil:Tr Y).get i=A:=rfl
def Tr.FT (l r:Tr Y) (v:G Y) (i:Nat):(Tr.node l v r).get i=if i=0 then v else if i % 2=1 then l.get (i / 2) else r.get (i / 2-1):=by
 show aT (Cz i 0) v (aT (Cz (Ht i 2) 1) (l.get (Ys i 2)) (r.get (Hu (Ys i 2) 1)))=_;rw[cx,cx,beq_eq,beq_eq];simp only[lB];rfl
def Tr.left {Y:Type}:Tr Y->Tr Y
 | .nil=>.nil
 | .node l _ _=>l
def Tr.right {Y:Type}:Tr Y->Tr Y
 | .nil=>.nil
 | .node _ _ r=>r
def Tr.val {Y:Type}:Tr Y->G Y
 | .nil=>A
 | .node _ v _=>v
def Tr.aiX (t:Tr Y) (i:Nat):t.get i=if i=0 then t.val else if i % 2=1 then t.left.get (i / 2) else t.right.get (i / 2-1):=by
 cases t with
 |nil=>simp[Tr.val,Tr.left,Tr.right,Tr.get_nil]
 |node l v r=>rw[Tr.FT];rfl
def Tr.axK (n:Nat) (t:Tr Y) (i:Nat) (x:G Y):Tr.Ny (n+1) t i x=
  if i=0 then .node t.left x t.right else if i % 2=1 then .node (Tr.Ny n t.left (i / 2) x) t.val t.right else .node t.left t.val (Tr.Ny n t.right (i / 2-1) x):=by
 have e:Tr.Ny (n+1) t i x=aT (Cz i 0) (Tr.node t.left x t.right) (aT (Cz (Ht i 2) 1) (.node (Tr.Ny n t.left (Ys i 2) x) t.val t.right) (.node t.left t.val (Tr.Ny n t.right (Hu (Ys i 2) 1) x))):=by
  cases t<;>rfl
 rw[e,cx,cx,beq_eq,beq_eq];simp only[lB];rfl
def Tr.afL {Y:Type}:∀(n:Nat) (t:Tr Y) (i j:Nat) (x:G Y),i<n->(Tr.Ny n t i x).get j=if j=i then x else t.get j
 |0,_,_,_,_,h=>W
 |n+1,t,i,j,x,h=>by
  rw[Tr.axK];by_cases h0:i=0
  .subst h0;rw[ax rfl,Tr.FT];by_cases hj:j=0
   .simp[hj]
   .rw[au hj,au hj,Tr.aiX t j,au hj]
  .rw[au h0];by_cases h1:i % 2=1
   .rw[ax h1,Tr.FT,Tr.aiX t j];by_cases hj:j=0
    .subst hj;rw[ax rfl,ax rfl,au W]
    .rw[au hj,au hj];by_cases hj1:j % 2=1
     .rw[ax hj1,ax hj1,Tr.afL n _ _ _ _ W]
      by_cases e:j=i
      .rw[ax e,ax W]
      .rw[au e,au W]
     .rw[au hj1,au hj1,au W]
   .rw[au h1,Tr.FT,Tr.aiX t j];by_cases hj:j=0
    .subst hj;rw[ax rfl,ax rfl,au W]
    .rw[au hj,au hj];by_cases hj1:j % 2=1
     .rw[ax hj1,ax hj1,au W]
     .rw[au hj1,au hj1,Tr.afL n _ _ _ _ W]
      by_cases e:j=i
      .rw[ax e,ax W]
      .rw[au e,au W]
def Tr.apE (t:Tr Y) (i j:Nat) (x:G Y):(t.set i x).get j=if j=i then x else t.get j:=Tr.afL (i+1) t i j x W
structure Gh where
 η:Nat->Int
 sz:Ey->Nat
 ρ:Nat->Option (Nat×Nat)
 lim:Nat->Nat
 et:Nat->Ey
 wb:Nat->Option Obj
structure Gh.le (g g':Gh):Prop where
 η:g'.η=g.η
 sz:g'.sz=g.sz
 ρ:∀id p,g.ρ id=V p->g'.ρ id=V p
 lim:∀id p,g.ρ id=V p->g'.lim id=g.lim id
 et:∀id p,g.ρ id=V p->g'.et id=g.et id
 wb:g'.wb=g.wb
def Gh.le.refl (g:Gh):g.le g:=⟨rfl,rfl,λ_ _ h=>h,λ_ _ _=>rfl,λ_ _ _=>rfl,rfl⟩
def Gh.le.trans {a b c:Gh} (h:a.le b) (k:b.le c):a.le c:=
 ⟨k.η.trans h.η,k.sz.trans h.sz,λid p q=>k.ρ id p (h.ρ id p q),λid p q=>(k.lim id p (h.ρ id p q)).trans (h.lim id p q),λid p q=>(k.et id p (h.ρ id p q)).trans (h.et id p q),k.wb.trans h.wb⟩
mutual
inductive VR (g:Gh):O'->SV->Prop
 |bool (b:_):VR g (.bool b) (.bool b)
 |int (k e:_) {n:Int} (h:n=e.ev g.η):VR g (.int k n) (.int k e)
 |str (s:_):VR g (.string s) (.str s)
 |ptr {id off b o:_} (h:g.ρ id=V (b,o)):VR g (.pointer (V ⟨b,o+off,A⟩)) (.ptr id off)
 |wz:VR g (.pointer A) .wz
 |sl {id off n b o c:_} {cap:Cp} (h:g.ρ id=V (b,o)) (hn:n<=c) (hc:∀m,cap= .k m->c=m) (hl:∀e,cap= .u e->g.et id=e/\off+c*g.sz e<=g.lim id):VR g (.slice (V ⟨b,o+off,A⟩) n c) (.sl id off n cap)
 |sle {a c:_}:VR g (.slice a 0 c) .sle
 |bY:VR g (.slice A 0 0) .bY
 |mp {id b o:_} (h:g.ρ id=V (b,o)):VR g (.map (V b)) (.mp id)
 |qA:VR g (.map A) .qA
 |fn {f:FuncId} {first kL:jQ} {fs cs:bj} (h1:ow g first.toList fs) (h2:ow g kL.toList cs):VR g (.func (.func f) first kL) (.fn (.func f) fs cs)
 |vM:VR g .nilFunc .vM
 |kN {t v x:_} (h:VR g v x):VR g (.iface t v) (.kN t x)
 |re:VR g .nilIface .re
 |agg {vs:jQ} {cs:_} (h:iR g vs.toList cs):VR g (.agg vs) (.agg cs)
 |dh {vs:jQ} {cs:_} (h:ow g vs.toList cs):VR g (.tuple vs) (.dh cs)
 |undef (v:_):VR g v .undef
inductive ow (g:Gh):gn->bj->Prop
 |nil:ow g [] []
 |cons {v x vs xs:_} (h:VR g v x) (ht:ow g vs xs):ow g (v::vs) (x::xs)
inductive iR (g:Gh):gn->bj->Prop
 |nil:iR g [] []
 |cons {v x vs xs:_} (h1:v.oneCell'=I) (h:VR g v x) (ht:iR g vs xs):iR g (v::vs) (x::xs)
end
mutual
def VR.mono {g g':Gh} (lm:g.le g'):∀{v x},VR g v x->VR g' v x
 |_,_,.bool b=>.bool b
 |_,_,.int k e h=>.int k e (by rw[lm.η];exact h)
 |_,_,.str s=>.str s
 |_,_,.ptr h=>.ptr (lm.ρ _ _ h)
 |_,_,.wz=>.wz
 |_,_,.sl h hn hc hl=>.sl (lm.ρ _ _ h) hn hc (λe he=>by rw[lm.sz,lm.et _ _ h,lm.lim _ _ h];exact hl e he)
 |_,_,.sle=>.sle
 |_,_,.bY=>.bY
 |_,_,.mp h=>.mp (lm.ρ _ _ h)
 |_,_,.qA=>.qA
 |_,_,.fn h1 h2=>.fn (h1.mono lm) (h2.mono lm)
 |_,_,.vM=>.vM
 |_,_,.kN h=>.kN (h.mono lm)
 |_,_,.re=>.re
 |_,_,.agg h=>.agg (h.mono lm)
 |_,_,.dh h=>.dh (h.mono lm)
 |_,_,.undef v=>.undef v
def ow.mono {g g':Gh} (lm:g.le g'):∀{v x},ow g v x->ow g' v x
 |_,_,.nil=>.nil
 |_,_,.cons h ht=>.cons (h.mono lm) (ht.mono lm)
def iR.mono {g g':Gh} (lm:g.le g'):∀{v x},iR g v x->iR g' v x
 |_,_,.nil=>.nil
 |_,_,.cons h1 h ht=>.cons h1 (h.mono lm) (ht.mono lm)
end
variable {g:Gh} {P:Y'}
def iR.length:∀{vs:gn} {cs:bj},iR g vs cs->O vs=O cs
 |_,_,.nil=>rfl
 |_,_,.cons _ _ ht=>by simp[ht.length]
def ow.length:∀{vs:gn} {cs:bj},ow g vs cs->O vs=O cs
 |_,_,.nil=>rfl
 |_,_,.cons _ ht=>by simp[ht.length]
def iR.get:∀{vs:gn} {cs:bj},iR g vs cs->∀{j:Nat} {x:SV},cs[j]? =V x->∃v,vs[j]? =V v/\v.oneCell'=I/\VR g v x
 |_,_,.nil,_,_,h=>by simp at h
 |_,_,.cons h1 hd ht,j,x,h=>by
  cases j with
  |zero=>simp at h;subst h;exact ⟨_,rfl,h1,hd⟩
  |succ j=>simp at h;let ⟨v,a,b,c⟩:=ht.get h;exact ⟨v,by simpa using a,b,c⟩
def ow.get:∀{vs:gn} {cs:bj},ow g vs cs->∀{j:Nat} {x:SV},cs[j]? =V x->∃v,vs[j]? =V v/\VR g v x
 |_,_,.nil,_,_,h=>by simp at h
 |_,_,.cons hd ht,j,x,h=>by
  cases j with
  |zero=>simp at h;subst h;exact ⟨_,rfl,hd⟩
  |succ j=>simp at h;let ⟨v,a,c⟩:=ht.get h;exact ⟨v,by simpa using a,c⟩
def iR.append:∀{vs us:gn} {cs ds:bj},iR g vs cs->iR g us ds->iR g (vs++us) (cs++ds)
 |_,_,_,_,.nil,k=>k
 |_,_,_,_,.cons h1 hd ht,k=>.cons h1 hd (ht.append k)
def ow.append:∀{vs us:gn} {cs ds:bj},ow g vs cs->ow g us ds->ow g (vs++us) (cs++ds)
 |_,_,_,_,.nil,k=>k
 |_,_,_,_,.cons hd ht,k=>.cons hd (ht.append k)
def iR.drop:∀{vs:gn} {cs:bj} (n:Nat),iR g vs cs->iR g (vs.drop n) (cs.drop n)
 |_,_,0,h=>h
 |_,_,n+1,.nil=>by simpa using .nil
 |_,_,n+1,.cons _ _ ht=>by simpa using ht.drop n
def iR.take:∀{vs:gn} {cs:bj} (n:Nat),iR g vs cs->iR g (vs.take n) (cs.take n)
 |_,_,0,_=>by simpa using .nil
 |_,_,n+1,.nil=>by simpa using .nil
 |_,_,n+1,.cons h1 hd ht=>by simpa using .cons h1 hd (ht.take n)
def iR.one:∀{vs:gn} {cs:bj},iR g vs cs->∀v∈vs,v.oneCell'=I
 |_,_,.nil,v,hv=>by simp at hv
 |_,_,.cons h1 _ ht,v,hv=>by
  rcases cU.1 hv with rfl|hv
  .exact h1
  .exact ht.one v hv
def iR.mk:∀{vs:gn} {cs:bj},O vs=O cs->(∀(j:Nat) (v:O') (x:SV),vs[j]? =V v->cs[j]? =V x->v.oneCell'=I/\VR g v x)->iR g vs cs
 | [],[],_,_=>.nil
 |v::vs,x::xs,hl,h=>by
  let ⟨a,b⟩:=h 0 v x rfl rfl;exact .cons a b (iR.mk (by simpa using hl) λj v x hv hx=>h (j+1) v x (by simpa using hv) (by simpa using hx))
 | [],_::_,hl,_=>by simp at hl
 |_::_,[],hl,_=>by simp at hl
structure Cells (g:Gh) (w:World) (id b o:Nat) (e:Ey) (cs:bj):Prop where
 mem:∃cur:jQ,w.heap[b]? =V (.cells cur e (0,0))/\o+g.lim id<=cur.size/\∃vs,iR g vs cs/\∀j v,vs[j]? =V v->cur[o+j]? =V v
 et:g.et id=e
def Sp (g:Gh) (m:Hs) (x:SV×SV×Nat):Prop:=VR g m.key x.1/\VR g m.val x.2.1/\m.born=x.2.2
inductive kW (g:Gh):List Hs->iU->Prop
 |nil:kW g [] []
 |cons {m x ms xs:_} (h:Sp g m x) (ht:kW g ms xs):kW g (m::ms) (x::xs)
def kW.mono {g g':Gh} (lm:g.le g'):∀{ms:List Hs} {xs:iU},kW g ms xs->kW g' ms xs
 |_,_,.nil=>.nil
 |_,_,.cons h ht=>.cons ⟨h.1.mono lm,h.2.1.mono lm,h.2.2⟩ (ht.mono lm)
structure FR (g:Gh) (nt:Nat) (tm:Tf) (tmps:jQ):Prop where
 sz:tmps.size=nt
 tm:∀t x,tm t=V x->VR g (tmps.getD t undef) x
def FR.mono {g g':Gh} (lm:g.le g') {tm:Tf} {tmps:jQ} (h:FR g nt tm tmps):FR g' nt tm tmps:=⟨h.sz,λt x hx=>(h.tm t x hx).mono lm⟩
def OR (g:Gh) (w:World) (id b o:Nat):SO->Prop
 | .cells e cs=>Cells g w id b o e cs
 | .map es c=>∃ms,w.heap[b]? =V (.map ms c)/\kW g ms.toList es
 | .qR s pos=>o=0/\w.heap[b]? =V (.stringIter s pos)
 | .mapIter mp since ol last=>o=0/\∃(bm:cC) (sa:Array Nat),w.heap[b]? =V (.mapIter bm since sa last)/\sa.toList=ol/\(match mp with|none=>bm=A|some m=>∃x y,bm=V x/\g.ρ m=V (x,y))
 | .dfr=>w.heap[b]? =V (.deferred (V []))
 | .ro cs=>∃(kw:jQ) (e:Ey) (fz:Nat×Nat),w.heap[b]? =V (.cells kw e fz)/\g.wb b=V (.cells kw e fz)/\∀j x,cs[j]? =V x->∃v,kw[o+j]? =V v/\(MQ x=U->v.oneCell'=I/\VR g v x)
def Cells.mono {g g':Gh} (lm:g.le g') {id b:Nat} {cs:bj} (hρ:g.ρ id=V (b,o)) (h:Cells g w id b o e cs) (hw:w'.heap[b]? =w.heap[b]?):Cells g' w' id b o e cs:=by
 let ⟨⟨kw,h1,h0,vs,h2,h3⟩,h4⟩:=h;exact ⟨⟨kw,hw.trans h1,by rw[lm.lim _ _ hρ];exact h0,vs,h2.mono lm,h3⟩,(lm.et _ _ hρ).trans h4⟩
def OR.mono {g g':Gh} (lm:g.le g') {id b:Nat} {x:SO} (hρ:g.ρ id=V (b,o)) (h:OR g w id b o x) (hw:w'.heap[b]? =w.heap[b]?):OR g' w' id b o x:=by
 cases x with
 |cells e cs=>exact Cells.mono lm hρ h hw
 |map es c=>let ⟨ms,h1,h2⟩:=h;exact ⟨ms,hw.trans h1,h2.mono lm⟩
 |qR s pos=>exact ⟨h.1,hw.trans h.2⟩
 |mapIter mp since ol last=>
  let ⟨h0,bm,sa,h1,h2,h3⟩:=h;refine ⟨h0,bm,sa,hw.trans h1,h2,?_⟩;cases mp with
  |none=>exact h3
  |some m=>let ⟨x,y,e1,e2⟩:=h3;exact ⟨x,y,e1,lm.ρ _ _ e2⟩
 |dfr=>exact hw.trans h
 |ro cs=>
  let ⟨kw,e,fz,h1,h0,h2⟩:=h;refine ⟨kw,e,fz,hw.trans h1,(congrFun lm.wb b).trans h0,λj x hx=> ?_⟩
  let ⟨v,a,b⟩:=h2 j x hx;exact ⟨v,a,λhu=>⟨(b hu).1,(b hu).2.mono lm⟩⟩
structure HR (g:Gh) (hp:Hf) (w:World):Prop where
 ob:∀id o,hp id=V o->∃b c,g.ρ id=V (b,c)/\b<w.heap.size/\OR g w id b c o
 inj:∀i j x y b c d,hp i=V x->hp j=V y->g.ρ i=V (b,c)->g.ρ j=V (b,d)->i=j
def YG (g:Gh) (hp:Hf) (b:Nat):Prop:=∃id o c,hp id=V o/\g.ρ id=V (b,c)
structure Fr (g:Gh) (hp:Hf) (w:World) (g':Gh) (CM:Hf) (w':World):Prop where
 os:w'.os=w.os
 tape:w'.tape=w.tape
 output:w'.output=w.output
 size:w.heap.size<=w'.heap.size
 le:g.le g'
 old:∀b,b<w.heap.size->¬YG g hp b->w'.heap[b]? =w.heap[b]?
 own:∀b,b<w.heap.size->YG g' CM b->YG g hp b
def Fr.refl (g:Gh) (hp:Hf) (w:World):Fr g hp w g hp w:=⟨rfl,rfl,rfl,cM _,.refl _,λ_ _ _=>rfl,λ_ _ h=>h⟩
def Fr.trans {g g1 g2:Gh} {h h1 h2:Hf} {w1 w2:World} (a:Fr g h w g1 h1 w1) (b:Fr g1 h1 w1 g2 h2 w2):Fr g h w g2 h2 w2:=
 ⟨b.os.trans a.os,b.tape.trans a.tape,b.output.trans a.output,lO a.size b.size,a.le.trans b.le,
  λk hk hn=>(b.old k (Ch hk a.size) (λhm=>hn (a.own k hk hm))).trans (a.old k hk hn),
  λk hk hm=>a.own k hk (b.own k (Ch hk a.size) hm)⟩
end
def GV {e:SI} (h:U4 e=V n):e= .lit (.ofNat n):=by
 unfold U4 at h;split at h
 .simp at h;subst h;rfl
 .simp at h
def xk {x:SV} (h:ph x=V n):∃k,x= .int k (.lit (.ofNat n)):=by
 cases x<;>first|(exact ⟨_,by rw[GV h]⟩)|cases h
def B9 {x:SV} {b:Bool} (h:vr x=V b):x= .bool b:=by cases x<;>cases h<;>rfl
def uH {x:SV} {p:UQ×SI} (h:intOf x=V p):x= .int p.1 p.2:=by cases x<;>cases h<;>rfl
def sf {x:SV} (h:strOf x=V s):x= .str s:=by cases x<;>cases h<;>rfl
def so {x:SV} (h:yf x=V q):x= .ptr q.1 q.2:=by cases x<;>cases h<;>rfl
def Ef {x:SV} {cs:bj} (h:QE x=V cs):x= .agg cs:=by cases x<;>cases h<;>rfl
def arw {x:SV} {cs:bj} (h:Ua x=V cs):x= .dh cs:=by cases x<;>cases h<;>rfl
def abY {x:SV} (h:aCD x=V i):x= .mp i:=by cases x<;>cases h<;>rfl
def axI {x:SV} {q:Nat×Nat×Nat×Cp} (h:aCi x=V q):x= .sl q.1 q.2.1 q.2.2.1 q.2.2.2:=by cases x<;>cases h<;>rfl
def G1 {x:SV} (h:SF x=V n):(∃i o c,x= .sl i o n c)\/(x= .bY/\n=0)\/(x= .sle/\n=0):=by
 cases x<;>first|(cases h;exact .inl ⟨_,_,_,rfl⟩)|(cases h;exact .inr (.inl ⟨rfl,rfl⟩))|(cases h;exact .inr (.inr ⟨rfl,rfl⟩))|cases h
def asd {x y:SV} (h:adt x=V y):y=x/\((∃i o,x= .ptr i o)\/∃f a c,x= .fn f a c):=by
 cases x<;>first|(cases h;exact ⟨rfl,.inl ⟨_,_,rfl⟩⟩)|(cases h;exact ⟨rfl,.inr ⟨_,_,_,rfl⟩⟩)|cases h
def sP {d:UD} (h:px d=V e):d= .slice e:=by cases d<;>cases h<;>rfl
def ac1 {d:UD} {fs:List FL} (h:A7 d=V fs):d= .struct fs:=by cases d<;>cases h<;>rfl
def ajc {d:UD} {q:Ey×Ey} (h:H5 d=V q):d= .map q.1 q.2:=by cases d<;>cases h<;>rfl
def anz {d:UD} (h:Jo d=I):d= .string:=by cases d<;>cases h<;>rfl
def aiD {d:UD} (h:Qm d=I):d= .bool:=by cases d<;>cases h<;>rfl
def sY {o:G SO} {p:Ey×bj} (h:ny o=V p):o=V (.cells p.1 p.2):=by
 unfold ny at h;split at h
 .simp at h;subst h;rfl
 .simp at h
def GY {o:G SO} {p:iU×Nat} (h:ln o=V p):o=V (.map p.1 p.2):=by
 unfold ln at h;split at h
 .simp at h;subst h;rfl
 .simp at h
def asu {o:G SO} (h:Ql o=V p):o=V (.qR p.1 p.2):=by
 unfold Ql at h;split at h
 .simp at h;subst h;rfl
 .simp at h
def pB {a b:UQ} (h:iV a b=I):a=b:=by
 cases a<;>cases b<;>first|rfl|(simp[iV] at h)
def ast (a:UQ):iV a a=I:=by cases a<;>rfl
def EJ (a b:Int):Lm a b=A' (a=b):=by
 cases a<;>cases b<;>simp[Lm,beq_eq]
 rename_i m n;exact ⟨λh=>by rw[h],λh=>asi h⟩
def yy (a b:Int):D5 a b=A' (a<b):=by
 cases a<;>cases b<;>simp only[D5,ble_eq,Pw]
 .rename_i m n;simp only[II];omega
 .rename_i m n;simp only[eq_comm (a:=U),anK,II];omega
 .rename_i m n;simp only[eq_comm (a:=I),lB,II];omega
 .rename_i m n;omega
def GC (P:Y') (t:Ey):UD->Prop
 | .bool=>P.underlying t=V .bool
 | .int k=>P.underlying t=V (.int k)
 | .string=>P.underlying t=V .string
 | .pointer=>∃e,P.underlying t=V (.pointer e)
 | .slice e=>P.underlying t=V (.slice e)
 | .array n e=>P.underlying t=V (.array n e)
 | .map k e=>P.underlying t=V (.map k e)
 | .struct fs=>∃a:Array Field,P.underlying t=V (.struct a)/\a.toList.map (λf=>FL.mk f.type f.offset (A' (f.name≠ "_")))=fs/\∀f∈a.toList,(P.info? f.type).isSome=I
 | .func=>∃a b c,P.underlying t=V (.func a b c)
 | .interface=>∃ms,P.underlying t=V (.interface ms)
 | .other=>False
def ajT (agg:Bool) (z:O') (cs:bj):Prop:=
 (∀g,iR g z.cells.toList cs)/\(agg=I->∃a,z= .agg a)/\(agg=U->z.oneCell'=I)
structure Gd (P:Y') (t:Ey) (i:TI):Prop where
 desc:GC P t i.desc
 info:∃f z,P.info? t=V f/\f.size=i.size/\f.bytes=i.bytes/\f.comparable=i.comparable/\f.zero=V z/\ajT (oj i.desc) z i.zero/\(oj i.desc=I->i.zero.length=i.size)
structure fU (E:Env) (g:Gh):Prop where
 ty:∀t i,E.ty.get t=V i->Gd E.P t i
 fn:∀f x,E.fn.get f=V x->E.P.funcs[f]? =V x
 lt:∀a b r,(a,b,r)∈E.lt->A' (a.ev g.η<b.ev g.η)=r
 eq:∀a b r,(a,b,r)∈E.eq->A' (a.ev g.η=b.ev g.η)=r
 mix:E.P.follows .mixedOrders=I
 sz:∀t,g.sz t=E.P.cellsOf t
def fU.mono {E:Env} {g g':Gh} (h:fU E g) (lm:g.le g'):fU E g':=
 ⟨h.ty,h.fn,λa b r hm=>by rw[lm.η];exact h.lt a b r hm,λa b r hm=>by rw[lm.η];exact h.eq a b r hm,h.mix,λt=>by rw[lm.sz];exact h.sz t⟩
def fU.size {E:Env} {g:Gh} (h:fU E g) {i:TI} (hi:E.ty.get t=V i):g.sz t=i.size:=by
 let ⟨f,z,h1,h2,_⟩:=(h.ty t i hi).info;rw[h.sz,Program.cellsOf,h1];simpa using h2
def Bv {E:Env} {g:Gh} (hE:fU E g) {a b:SI} {r:Bool} (h:GZ E a b=V r):A' (a.ev g.η<b.ev g.η)=r:=by
 unfold GZ at h;split at h
 .simp at h;subst h;rw[yy];rfl
def ahY {E:Env} {g:Gh} (hE:fU E g) {a b:SI} {r:Bool} (h:eqI E a b=V r):A' (a.ev g.η=b.ev g.η)=r:=by
 unfold eqI at h;split at h
 .simp at h;subst h;rw[EJ];rfl
def alh:∀(a b:List UInt8),vq a b=A' (a=b)
 | [],[]=>by simp[vq]
 | [],_::_=>by simp[vq]
 |_::_,[]=>by simp[vq]
 |a::l,b::m=>by
  rw[vq,alh l m,beq_eq,oS];simp only[bI,lB,List.cons.injEq];rw[<-UInt8.toNat_inj]
def yY (a b:xN):HU a b=A' (a=b):=by
 unfold HU;rw[alh,Pw];constructor
 .intro h;cases a with|mk a=>cases b with|mk b=>simp at h;simp[h]
 .intro h;rw[h]
def akW {Y:Type} {P:Y'}:∀{s:Sem Y} {a:Y},pU P s=V a->∀w,s.run P w= .ok a w
 | .pure a,_,h,w=>by simp[pU] at h;subst h;rfl
 | .program k,a,h,w=>akW (s:=k P) h w
 | .load ..,_,h,_| .store ..,_,h,_| .new ..,_,h,_| .shape ..,_,h,_| .freeze ..,_,h,_| .frozen ..,_,h,_| .getObj ..,_,h,_| .setObj ..,_,h,_| .choose ..,_,h,_| .sys ..,_,h,_| .mark ..,_,h,_| .halt _,_,h,_=>by simp[pU] at h
mutual
def Ae (g:Gh):∀(v:O'),VR g v (xp v)
 | .bool b=>.bool b
 | .int k n=>.int k _ rfl
 | .string s=>.str s
 | .pointer A=>.wz
 | .pointer (V _)=>.undef _
 | .slice A 0 0=>.bY
 | .slice A 0 (_+1)=>.undef _
 | .slice A (_+1) _=>.undef _
 | .slice (V _) _ _=>.undef _
 | .map A=>.qA
 | .map (V _)=>.undef _
 | .nilFunc=>.vM
 | .nilIface=>.re
 | .agg ⟨cs⟩=>by
  unfold xp;rw[cx];split
  .rename_i hc;refine .agg ?_;have hr:=akP g cs;refine iR.mk hr.length λj v x hv hx=> ?_
   let ⟨u,hu,hd⟩:=hr.get hx;have hv:cs[j]? =V v:=hv;rw[hv] at hu;obtain rfl:v=u:=by simpa using hu
   exact ⟨jR.1 hc v (bF hv),hd⟩
  .exact .undef _
 | .tuple ⟨cs⟩=>.dh (akP g cs)
 | .float _ _| .complex _ _ _| .chan _| .func _ _ _| .iface _ _=>.undef _
def akP (g:Gh):∀(vs:gn),ow g vs (uO vs)
 | []=>.nil
 |v::vs=>.cons (Ae g v) (akP g vs)
end
section
variable {E:Env} {g:Gh} {w:World}
variable {P:Y'}
def DX {i:TI} (h:Gd P t i) (w:World):(isAgg t).run P w= .ok (oj i.desc) w:=by
 have hd:=h.desc;generalize i.desc=d at hd;cases d<;>simp only[GC] at hd
 case pointer=>let ⟨e,he⟩:=hd;simp only[isAgg,P',run_underlying he,V'];rfl
 case struct=>let ⟨e,he,_⟩:=hd;simp only[isAgg,P',run_underlying he,V'];rfl
 case func=>let ⟨_,_,_,he⟩:=hd;simp only[isAgg,P',run_underlying he,V'];rfl
 case interface=>let ⟨e,he⟩:=hd;simp only[isAgg,P',run_underlying he,V'];rfl
 all_goals (simp only[isAgg,P',run_underlying hd,V'];rfl)
def qa {i:TI} (h:Gd P t i) (w:World):(sizeOf t).run P w= .ok i.size w:=by
 let ⟨f,z,h1,h2,_⟩:=h.info;simp[sizeOf,typeInfo,h1,h2]
def awF {i:TI} (h:Gd P t i):∃z,(∀w,(zeroValue t).run P w= .ok z w)/\ajT (oj i.desc) z i.zero/\(oj i.desc=I->O i.zero=i.size):=by
 let ⟨f,z,h1,_,_,_,h5,h6⟩:=h.info;exact ⟨z,λw=>by simp[zeroValue,typeInfo,h1,h5],h6⟩
def DZ {i:TI} (hi:Gd P t i) {cs:bj} {x:SV} {vs:jQ} (h:jr i cs off=V x) (hc:iR g vs.toList cs) (w:World):
  ∃v,(part t vs off).run P w= .ok v w/\VR g v x:=by
 unfold jr at h;rw[cx] at h;split at h
 .rename_i ha;let ⟨hl,h⟩:=bf h;simp at h;subst h;refine ⟨.agg (vs.extract off (off+i.size)),?_,.agg ?_⟩
  .simp only[part,P',DX hi,V',ha,az,qa hi,X']
  .have:(vs.extract off (off+i.size)).toList=(vs.toList.drop off).take i.size:=by simp[List.extract_eq_take_drop]
   rw[this];exact (hc.drop off).take _
 .rename_i ha;let ⟨v,hv,_,hd⟩:=hc.get h;refine ⟨v,?_,hd⟩;have G8:vs[off]? =V v:=by simpa using hv
  have ha:oj i.desc=U:=by simpa using ha
  simp only[part,P',DX hi,V',ha,ay,aw,G8,X']
def aak {i:TI} (hz:ajT (oj i.desc) z i.zero) (hl:oj i.desc=I->O i.zero=i.size) {x:SV} (h:jr i i.zero 0=V x):VR g z x:=by
 unfold jr at h;rw[cx] at h;let ⟨h1,h2,h3⟩:=hz;split at h
 .rename_i ha;let ⟨_,h⟩:=bf h;simp at h;subst h;obtain ⟨a,rfl⟩:=h2 ha;rw[<-hl ha,nj];exact .agg (h1 g)
 .rename_i ha;have ho:=h3 (by simpa using ha)
  let ⟨v,hv,_,hd⟩:=(h1 g).get h;have:z.cells= #[z]:=by cases z<;>first|rfl|(simp[Value.oneCell'] at ho)
  rw[this] at hv;simp at hv;subst hv;exact hd
def VR.jD {x:SV} {cs:bj} (h:VR g v x) (hx:x.cells=V cs):iR g v.cells.toList cs:=by
 cases h with
 |agg h=>cases hx;exact h
 |dh h=>cases hx
 |undef v=>cases hx
 |bool b=>cases hx;exact .cons rfl (.bool b) .nil
 |int k e h=>cases hx;exact .cons rfl (.int k e h) .nil
 |str s=>cases hx;exact .cons rfl (.str s) .nil
 |ptr h=>cases hx;exact .cons rfl (.ptr h) .nil
 |wz=>cases hx;exact .cons rfl .wz .nil
 |sl a b c d=>cases hx;exact .cons rfl (.sl a b c d) .nil
 |sle=>cases hx;exact .cons rfl .sle .nil
 |bY=>cases hx;exact .cons rfl .bY .nil
 |mp h=>cases hx;exact .cons rfl (.mp h) .nil
 |qA=>cases hx;exact .cons rfl .qA .nil
 |fn a b=>cases hx;exact .cons rfl (.fn a b) .nil
 |vM=>cases hx;exact .cons rfl .vM .nil
 |kN h=>cases hx;exact .cons rfl (.kN h) .nil
 |re=>cases hx;exact .cons rfl .re .nil
def uf {tm:Tf} (h:FR g nt tm a.tmps) {v:SV} (hv:dy tm x=V v):VR g (a.eval x) v:=by
 cases x with
 |tmp t=>exact h.tm t v hv
 |const u=>cases hv;exact Ae g u
 |global _=>cases hv
 |func f=>cases hv;exact .fn .nil .nil
def Cl {nt:Nat} {tm:Tf} {a:Act} (h:FR g nt tm a.tmps):∀{xs:List S'} {vs:bj},gN tm xs=V vs->ow g (xs.map a.eval) vs
 | [],_,hv=>by cases hv;exact .nil
 |x::xs,vs,hv=>by
  let ⟨v,l,h1,h2,h3⟩:=bV hv;cases h3;exact .cons (uf h h1) (Cl h h2)
def ajM {r k:G Bool} {b:Bool} (h:andThen r k=V b):(r=V I/\k=V b)\/(r=V U/\b=U):=by
 cases r with
 |none=>simp[andThen] at h
 |some c=>cases c<;>simp[andThen] at h<;>simp[h]
def acf {E:Env} (hE:fU E g) {eq:Ey->SV->SV->G Bool} {m:Nat} (heq:∀(t:Ey) (x y:SV) (b:Bool),eq t x y=V b->∀(u v:O'),VR g u x->VR g v y->∀w,(OI m t u v).run E.P w= .ok b w)
  {us vs:jQ} {xs ys:bj} (hx:iR g us.toList xs) (hy:iR g vs.toList ys):∀(l:List Field) (b:Bool),LI E eq xs ys (l.map λf=>FL.mk f.type f.offset (A' (f.name≠ "_")))=V b->∀w,(Op.eqFields m us vs l).run E.P w= .ok b w
 | [],b,h,w=>by cases h;simp[Op.eqFields]
 |f::l,b,h,w=>by
  simp only[j2,LI] at h;let ⟨hn,h⟩:=bf h;let ⟨i,hi,h⟩:=ak h;let ⟨x,y,hpx,hpy,h⟩:=bV h;have aHj:f.name≠ "_" :=by simpa using hn
  let ⟨v1,hr1,CP⟩:=DZ (hE.ty _ _ hi) hpx hx w;let ⟨v2,hr2,DJ⟩:=DZ (hE.ty _ _ hi) hpy hy w;rcases ajM h with ⟨h1,h2⟩|⟨h1,rfl⟩
  .have he:=heq _ _ _ _ h1 v1 v2 CP DJ w;simp only[Op.eqFields,ax aHj,P',hr1,hr2,he,V',Om,X'];simpa using acf hE heq hx hy l b h2 w
  .have he:=heq _ _ _ _ h1 v1 v2 CP DJ w;simp only[Op.eqFields,ax aHj,P',hr1,hr2,he,V',Om,X'];simp
def ajo {E:Env} (hE:fU E g):∀(n:Nat) (t:Ey) (x y:SV) (b:Bool),eqT E n t x y=V b->∀(u v:O'),VR g u x->VR g v y->∀(d:Nat) (w:World),(OI (n+d) t u v).run E.P w= .ok b w
 |0,_,_,_,_,h=>by cases h
 |n+1,t,x,y,b,h=>by
  intro u v hu hv d w;have DI:n+1+d=(n+d)+1:=by omega
  rw[DI];let ⟨i,hi,h⟩:=ak (show aA (E.ty.get t) (λi=>eqD i.desc E (eqT E n) t x y)=V b from h)
  have hT:=hE.ty t i hi;have hd:=hT.desc;generalize i.desc=D at hd h;cases D with
  |bool=>
   let ⟨p,q,h1,h2,h3⟩:=bV (show cq (vr x) (vr y) _=V b from h);obtain rfl:=B9 h1;obtain rfl:=B9 h2;cases hu;cases hv;cases h3;exact run_equalIn_bool' w _ t _ _ hd
  |int k=>
   let ⟨p,q,h1,h2,h3⟩:=bV (show cq (intOf x) (intOf y) _=V b from h);let ⟨hk,h3⟩:=bf h3;obtain rfl:=uH h1;obtain rfl:=uH h2;have hk:=pB hk;have hb:=ahY hE h3;cases hu with|int _ _ e1=>cases hv with|int _ _ e2=>
   rw[hk,run_equalIn_int w _ t _ _ _ _ hd,e1,e2,<-hb];congr 1
  |string=>
   let ⟨p,q,h1,h2,h3⟩:=bV (show cq (strOf x) (strOf y) _=V b from h);obtain rfl:=sf h1;obtain rfl:=sf h2;cases hu;cases hv;cases h3;rw[run_equalIn_string w _ t _ _ hd,yY];congr 1;rw[ad3,ad3,oS];simp only[tD,lB];constructor
   .intro h;cases p with|mk a=>cases q with|mk c=>simp at h;simp[h]
   .intro h;rw[h]
  |pointer=>
   let ⟨e,hd⟩:=hd;have h:atn x y=V b:=h;unfold atn at h;split at h<;>first|(cases hu;cases hv;cases h;simp[OI,run_underlying hd];done)|(simp at h)
  |slice e=>
   have h:aEf x y=V b:=h;unfold aEf at h;split at h<;>first|(cases hu;cases hv;cases h;simp[OI,run_underlying hd];done)|(simp at h)
  |array _ _=>cases h
  |map _ _=>
   have h:ato x y=V b:=h;unfold ato at h;split at h<;>first|(cases hu;cases hv;cases h;simp[OI,run_underlying hd];done)|(simp at h)
  |struct fs=>
   let ⟨a,hd,hfs,_⟩:=hd;let ⟨p,h1,h2⟩:=ak (show aA (aBe x y) _=V b from h);let ⟨xs,ys,h3,h4,h5⟩:=bV h1;cases h5;obtain rfl:=Ef h3;obtain rfl:=Ef h4;rw[cx] at h2;split at h2
   .simp at h2
   .rename_i hp;have hp:E.P.stoodInHeld t=U:=by simpa using hp
    cases hu with|agg hx=>cases hv with|agg hy=>
    have hf:E.P.fieldsOf t=a:=by simp[Program.fieldsOf,hd]
    rw[run_equalIn_struct w _ t _ _ (by rw[hf];exact hd) hp,hf]
    subst hfs;exact acf hE (λt x y b h u v hu hv w=>ajo hE n t x y b h u v hu hv d w) hx hy a.toList b h2 w
  |func=>
   let ⟨_,_,_,hd⟩:=hd;have h:aEi x y=V b:=h;unfold aEi at h;split at h<;>first|(cases hu;cases hv;cases h;simp[OI,run_underlying hd];done)|(simp at h)
  |interface=>
   let ⟨ms,hd⟩:=hd;have hq:atp x y=V b:=h;unfold atp at hq;split at hq<;>first|(cases hu;cases hv;cases hq;simp[OI,run_underlying hd];done)|(simp at hq)
  |other=>exact hd.elim
end
section
variable {E:Env} {g:Gh} {w:World}
variable {P:Y'} {y oy:S'}
def aKZ (η:Nat->Int) (k:UQ) (a b:SI):(Nh k a b).ev η=k.wrap (a.ev η+b.ev η):=by
 unfold Nh;split<;>rfl
def anT (η:Nat->Int) (k:UQ) (a b:SI):(Sb k a b).ev η=k.wrap (a.ev η - b.ev η):=by
 unfold Sb;split<;>rfl
def aEy (η:Nat->Int) (k:UQ) (a:SI):(adO k a).ev η=k.wrap (a.ev η):=by
 unfold adO;split<;>rfl
def akQ {op:Z6} {a b:O'} (h:P.eqGuardType P.depth t=U\/(∀cs,a≠ .agg cs)) (h2:a≠ .nilIface\/(isConst x||isConst y)=I) (w:World):(eqGuard op t x y a b).run P w= .ok () w:=by
 cases a<;>first
  |(cases op<;>rfl)
  |(
   rcases h2 with h2|h2
   .exact absurd rfl h2
   .cases b<;>first
     |(cases op<;>rfl)
     |(cases op<;>first|rfl|(cases x<;>cases y<;>first|rfl|(simp[isConst] at h2)))
   )
  |(
   rcases h with h|h
   .cases b<;>first|(cases op<;>rfl)|exact run_eqGuard_agg w op t x y _ _ h
   .exact absurd rfl (h _))
def sI {r:G Bool} {z:SV} (h:mS neg r=V z):∃b,r=V b/\z= .bool (if neg then !b else b):=by
 let ⟨b,h1,h2⟩:=ak h;cases h2;exact ⟨b,h1,by cases neg<;>rfl⟩
def aap {r:G O'} {z:SV} (h:K7 r=V z):∃v,r=V v/\z=xp v:=by
 let ⟨v,h1,h2⟩:=ak h;cases h2;exact ⟨v,h1,rfl⟩
def aAu (E:Env) (eq:Ey->SV->SV->G Bool) (t:Ey) (d:UD) (y:SV):eqD d E eq t .undef y=A:=by
 cases d<;>rfl
def aAt (E:Env) (n:Nat) (t:Ey) (y:SV):eqT E n t .undef y=A:=by
 cases n with
 |zero=>rfl
 |succ n=>
  show aA (E.ty.get t) (λi=>eqD i.desc E (eqT E n) t .undef y)=A
  cases E.ty.get t with
  |none=>rfl
  |some i=>exact aAu _ _ _ _ _
def asm {op:Z6} {k k':UQ} {a b:SI} {z:SV} (h:adw E op t k k' a b=V z):∃m n v,a= .lit m/\b= .lit n/\pU E.P (binOp op t (.int k m) (.int k' n))=V v/\z=xp v:=by
 unfold adw at h;split at h
 .rename_i m n;let ⟨v,h1,h2⟩:=aap h;exact ⟨m,n,v,rfl,rfl,h1,h2⟩
def aAi (x y:Int):(x==y)=A' (x=y):=by rw[oS];simp
def decLe (x y:Int):A' (x<=y)= !A' (y<x):=by rw[oS];simp
def VR.Hv {b c:Bool} (h:b=c):VR g (.bool b) (.bool c):=by subst h;exact .bool b
def asx (hE:fU E g) {op:Z6} {k k':UQ} {a b:SI} {z:SV} (h:asy op E op t k k' a b=V z) (w:World):
  ∃r,(binOp op t (.int k (a.ev g.η)) (.int k' (b.ev g.η))).run E.P w= .ok r w/\VR g r z:=by
 have lit:adw E op t k k' a b=V z->∃r,(binOp op t (.int k (a.ev g.η)) (.int k' (b.ev g.η))).run E.P w= .ok r w/\VR g r z:=by
  intro h;obtain ⟨m,n,v,rfl,rfl,h1,rfl⟩:=asm h;exact ⟨v,akW h1 w,Ae g v⟩
 cases op with
 |add=>
  let ⟨hk,h⟩:=bf (show aT (iV k k') (V (SV.int k (Nh k a b))) A=V z from h);cases h;obtain rfl:=pB hk;exact ⟨_,by simp[binOp,Op.intArith]<;>rfl,.int _ _ (aKZ _ _ _ _).symm⟩
 |sub=>
  let ⟨hk,h⟩:=bf (show aT (iV k k') (V (SV.int k (Sb k a b))) A=V z from h);cases h;obtain rfl:=pB hk;exact ⟨_,by simp[binOp,Op.intArith]<;>rfl,.int _ _ (anT _ _ _ _).symm⟩
 |eql=>
  let ⟨hk,h⟩:=bf (show aT (iV k k') (mS U (eqI E a b)) A=V z from h);obtain ⟨c,h1,rfl⟩:=sI h;obtain rfl:=pB hk;exact ⟨_,by simp[binOp,Op.intCmp]<;>rfl,VR.Hv (by have:=ahY hE h1;rw[aAi,this];rfl)⟩
 |neq=>
  let ⟨hk,h⟩:=bf (show aT (iV k k') (mS I (eqI E a b)) A=V z from h);obtain ⟨c,h1,rfl⟩:=sI h;obtain rfl:=pB hk;exact ⟨_,by simp[binOp,Op.intCmp]<;>rfl,VR.Hv (by have:=ahY hE h1;rw[<-this,<-aAi];rfl)⟩
 |lss=>
  let ⟨hk,h⟩:=bf (show aT (iV k k') (mS U (GZ E a b)) A=V z from h);obtain ⟨c,h1,rfl⟩:=sI h;obtain rfl:=pB hk;exact ⟨_,by simp[binOp,Op.intCmp]<;>rfl,VR.Hv (by have:=Bv hE h1;simpa using this)⟩
 |gtr=>
  let ⟨hk,h⟩:=bf (show aT (iV k k') (mS U (GZ E b a)) A=V z from h);obtain ⟨c,h1,rfl⟩:=sI h;obtain rfl:=pB hk;exact ⟨_,by simp[binOp,Op.intCmp]<;>rfl,VR.Hv (by have:=Bv hE h1;simpa using this)⟩
 |leq=>
  let ⟨hk,h⟩:=bf (show aT (iV k k') (mS I (GZ E b a)) A=V z from h);obtain ⟨c,h1,rfl⟩:=sI h;obtain rfl:=pB hk;exact ⟨_,by simp[binOp,Op.intCmp]<;>rfl,VR.Hv (by have:=Bv hE h1;rw[<-this];first|exact decLe _ _|(rw[<-decLe];rfl))⟩
 |geq=>
  let ⟨hk,h⟩:=bf (show aT (iV k k') (mS I (GZ E a b)) A=V z from h);obtain ⟨c,h1,rfl⟩:=sI h;obtain rfl:=pB hk;exact ⟨_,by simp[binOp,Op.intCmp]<;>rfl,VR.Hv (by have:=Bv hE h1;rw[<-this];first|exact decLe _ _|(rw[<-decLe];rfl))⟩
 |_=>exact lit h
def arC {op:Z6} {a b:xN} {z:SV} (h:arD op E op t a b=V z) (w:World):
  ∃r,(binOp op t (.string a) (.string b)).run E.P w= .ok r w/\VR g r z:=by
 have lit:K7 (pU E.P (binOp op t (.string a) (.string b)))=V z->∃r,(binOp op t (.string a) (.string b)).run E.P w= .ok r w/\VR g r z:=by
  intro h;obtain ⟨v,h1,rfl⟩:=aap h;exact ⟨v,akW h1 w,Ae g v⟩
 have hb:(a.toList==b.toList)=A' (a=b):=by
  rw[ad3,ad3,oS];simp only[tD,lB];constructor
  .intro h;cases a with|mk a=>cases b with|mk c=>simp at h;simp[h]
  .intro h;rw[h]
 cases op with
 |eql=>cases h;exact ⟨_,by simp[binOp,Op.stringOp]<;>rfl,VR.Hv (by rw[yY];simpa using hb)⟩
 |neq=>cases h;exact ⟨.bool (!(a.toList==b.toList)),by simp[binOp,Op.stringOp,bne],VR.Hv (by rw[yY,hb])⟩
 |_=>exact lit h
def acZ {a b:O'} (h1:∀k n,a≠ .int k n) (h2:∀k n,a≠ .float k n) (h3:∀k n m,a≠ .complex k n m) (h4:∀s,a≠ .string s) (w:World):
  (binOp .eql t a b).run P w=((OI 10000 t a b).run P w).andThen λr w'=>.ok (.bool r) w':=by
 cases a<;>first|exact absurd rfl (h1 _ _)|exact absurd rfl (h2 _ _)|exact absurd rfl (h3 _ _ _)|exact absurd rfl (h4 _)|(simp only[binOp];simp[Op.equal,Op.maxDepth])
def acY {a b:O'} (h1:∀k n,a≠ .int k n) (h2:∀k n,a≠ .float k n) (h3:∀k n m,a≠ .complex k n m) (h4:∀s,a≠ .string s) (w:World):
  (binOp .neq t a b).run P w=((OI 10000 t a b).run P w).andThen λr w'=>.ok (.bool (!r)) w':=by
 cases a<;>first|exact absurd rfl (h1 _ _)|exact absurd rfl (h2 _ _)|exact absurd rfl (h3 _ _ _)|exact absurd rfl (h4 _)|(simp only[binOp];simp[Op.equal,Op.maxDepth])
def ahZ (hE:fU E g) {op:Z6} {x y z:SV} (hx:∀k e,x≠ .int k e) (hs:∀s,x≠ .str s) (h:aan op E t ox oy x y=V z) (hu:VR g u x) (hv:VR g v y) (w:World):
  ∃r,(do eqGuard op t ox oy u v;binOp op t u v:Sem O').run E.P w= .ok r w/\VR g r z:=by
 have key:∀b,LH E t ox oy x y=V b->(eqGuard op t ox oy u v).run E.P w= .ok () w/\(∀w,(binOp .eql t u v).run E.P w= .ok (.bool b) w)/\(∀w,(binOp .neq t u v).run E.P w= .ok (.bool (!b)) w):=by
  intro b he;let ⟨qH,he⟩:=bf he;have rU:=λw=>ajo hE 20 t x y b he u v hu hv 9980 w
  simp only[show 20+9980=10000 from rfl] at rU;have hnu:x≠ .undef:=λe=>by rw[e,aAt] at he;simp at he
  have aMK:(∀k n,u≠ .int k n)/\(∀k n,u≠ .float k n)/\(∀k n m,u≠ .complex k n m)/\(∀s,u≠ .string s)/\(E.P.eqGuardType E.P.depth t=U\/(∀cs,u≠ .agg cs))/\(u≠ .nilIface\/(isConst ox||isConst oy)=I):=by
   cases hu<;>first|exact absurd rfl (hx _ _)|exact absurd rfl (hs _)|exact absurd rfl hnu|(simp;done)|(simp[aEh] at qH;simp[qH])
  let ⟨f1,f2,f3,f4,f5,f6⟩:=aMK;refine ⟨akQ f5 f6 w,λw=> ?_,λw=> ?_⟩
  .rw[acZ f1 f2 f3 f4,rU];rfl
  .rw[acY f1 f2 f3 f4,rU];rfl
 cases op with
 |eql=>
  obtain ⟨b,h1,rfl⟩:=sI (show mS U (LH E t ox oy x y)=V z from h);let ⟨k1,k2,k3⟩:=key b h1;exact ⟨.bool b,by simp only[P',k1,V',k2],.bool b⟩
 |neq=>
  obtain ⟨b,h1,rfl⟩:=sI (show mS I (LH E t ox oy x y)=V z from h);let ⟨k1,k2,k3⟩:=key b h1;exact ⟨.bool (!b),by simp only[P',k1,V',k3],.bool (!b)⟩
 |_=>cases h
def aAM (hE:fU E g) {op:Z6} {x y z:SV} (h:Ta E op t ox oy x y=V z) (hu:VR g u x) (hv:VR g v y) (w:World):
  ∃r,(do eqGuard op t ox oy u v;binOp op t u v:Sem O').run E.P w= .ok r w/\VR g r z:=by
 by_cases hx:∃k e,x= .int k e
 .obtain ⟨k,a,rfl⟩:=hx;let ⟨p,h1,h2⟩:=ak (show aA (intOf y) (λp=>asy op E op t k p.1 a p.2)=V z from h)
  obtain rfl:=uH h1;cases hu with|int _ _ e1=>cases hv with|int _ _ e2=>
  subst e1;subst e2;let ⟨r,q1,q2⟩:=asx hE h2 w;exact ⟨r,by rw[P',akQ (P:=E.P) (a:=.int k (a.ev g.η)) (.inr am) (.inl am)];exact q1,q2⟩
 .by_cases hs:∃s,x= .str s
  .obtain ⟨s,rfl⟩:=hs;let ⟨b,h1,h2⟩:=ak (show aA (strOf y) (λb=>arD op E op t s b)=V z from h)
   obtain rfl:=sf h1;cases hu;cases hv;let ⟨r,q1,q2⟩:=arC (g:=g) h2 w;exact ⟨r,by rw[P',akQ (P:=E.P) (a:=.string s) (.inr am) (.inl am)];exact q1,q2⟩
  .have qG:∀k e,x≠ .int k e:=λk e q=>hx ⟨k,e,q⟩
   have MR:∀s,x≠ .str s:=λs q=>hs ⟨s,q⟩
   refine ahZ hE qG MR ?_ hu hv w;cases x<;>first|exact absurd rfl (qG _ _)|exact absurd rfl (MR _)|exact h
def awJ {i:TI} (h:Gd P t i):∃d,P.underlying t=V d:=by
 have hd:=h.desc;generalize i.desc=d at hd;cases d<;>simp only[GC] at hd<;>first|exact ⟨_,hd⟩|exact ⟨_,hd.choose_spec⟩|exact ⟨_,hd.choose_spec.1⟩|exact ⟨_,hd.choose_spec.choose_spec.choose_spec⟩
def atE (hE:fU E g) {src dst:Ey} {x z:SV} (h:Vr E src dst x=V z) (hu:VR g u x) (w:World):∃r,(convert src dst u).run E.P w= .ok r w/\VR g r z:=by
 let ⟨i,j,hi,hj,h⟩:=bV h;let ⟨d1,CP⟩:=awJ (hE.ty _ _ hi);have hd:=(hE.ty _ _ hj).desc;generalize j.desc=D at hd h;cases D with
 |int k=>
  let ⟨p,h1,h2⟩:=ak (show aA (intOf x) (λp=>V (SV.int k (adO k p.2)))=V z from h)
  cases h2;obtain rfl:=uH h1;cases hu with|int _ _ e1=>
  subst e1;exact ⟨_,by simp[convert,run_underlying CP,run_underlying hd,Conv.intToInt]<;>rfl,.int _ _ (aEy _ _ _).symm⟩
 |string=>
  have h:arE x=V z:=h;unfold arE at h;split at h
  .cases h;cases hu;exact ⟨_,by simp[convert,run_underlying CP,run_underlying hd]<;>rfl,.str _⟩
  .unfold aFx at h;split at h
   .cases h;cases hu with|int _ _ e1=>
    subst e1;exact ⟨_,by simp[convert,run_underlying CP,run_underlying hd,Conv.intToString]<;>rfl,.str _⟩
  .cases h
 |_=>cases h
def aBY {op:UnOp} {x z:SV} (h:unA op x=V z) (hu:VR g u x) (w:World):∃r,(Op.unary op u).run P w= .ok r w/\VR g r z:=by
 cases hu with
 |bool b=>
  let ⟨h1,h2⟩:=bf (show aT (U7 op) (V (SV.bool (!b))) A=V z from h);cases h2;cases op<;>first|(simp[U7] at h1;done)|exact ⟨_,rfl,.bool _⟩
 |int k e he=>
  let ⟨h1,h2⟩:=bf (show aT (isNeg op) (V (SV.int k (Sb k (.lit 0) e))) A=V z from h);cases h2;subst he;cases op<;>first|(simp[isNeg] at h1;done)|exact ⟨.int k (k.wrap (0-e.ev g.η)),by simp[Op.unary,Op.intArith],.int _ _ (by rw[anT];simp only[SI.ev])⟩
 |_=>cases h
end
section
variable {E:Env} {g:Gh} {f:Hf} {w:World}
variable {P:Y'}
def jG (f:Hf) (u:Up):Hf:=λj=>if j=u.1 then u.2 else f j
def iH (f:Hf):ia->Hf
 | []=>f
 |u::us=>iH (jG f u) us
def Gh.bind (g:Gh) (id:Nat) (p:Nat×Nat) (l:Nat) (e:Ey):Gh:=⟨g.η,g.sz,λj=>if j=id then V p else g.ρ j,λj=>if j=id then l else g.lim j,λj=>if j=id then e else g.et j,g.wb⟩
def Gh.Jn {id:Nat} {p:Nat×Nat} (h:g.ρ id=A):g.le (g.bind id p l e):=by
 have key:∀j q,g.ρ j=V q->j≠id:=λj q hq e=>by subst e;rw[h] at hq;simp at hq
 refine ⟨rfl,rfl,λj q hq=> ?_,λj q hq=> ?_,λj q hq=> ?_,rfl⟩
 .show (if j=id then V p else g.ρ j)=V q
  rw[au (key j q hq)];exact hq
 .exact au (key j q hq)
 .exact au (key j q hq)
def Gh.kG (g:Gh) (id:Nat) (p:Nat×Nat) (l:Nat) (e:Ey):(g.bind id p l e).ρ id=V p:=by simp[Gh.bind]
def Gh.BI (g:Gh) (id:Nat) (p:Nat×Nat) (l:Nat) (e:Ey):(g.bind id p l e).lim id=l:=by simp[Gh.bind]
def Gh.EM (g:Gh) (id:Nat) (p:Nat×Nat) (l:Nat) (e:Ey):(g.bind id p l e).et id=e:=by simp[Gh.bind]
def Gh.nC (g:Gh) {id j:Nat} (p:Nat×Nat) (l:Nat) (e:Ey) (h:j≠id):(g.bind id p l e).ρ j=g.ρ j:=by simp[Gh.bind,h]
def HR.Ji (h:HR g f w) {id:Nat} (hn:g.ρ id=A):f id=A:=by
 cases hf:f id with
 |none=>rfl
 |some o=>
  let ⟨b,c,h1,_⟩:=h.ob id o hf;rw[hn] at h1;simp at h1
def HR.sub (h:HR g f w) {f':Hf} (hs:∀id o,f' id=V o->f id=V o):HR g f' w:=
 ⟨λid o ho=>h.ob id o (hs id o ho),λi j x y b c d hx hy h1 h2=>h.inj i j x y b c d (hs i x hx) (hs j y hy) h1 h2⟩
def HR.write (h:HR g f w) {id b:Nat} {o o':SO} (hf:f id=V o) (hρ:g.ρ id=V (b,c)) (oG:w'.heap.size=w.heap.size) (Ls:∀k,k≠b->w'.heap[k]? =w.heap[k]?) (Jq:OR g w' id b c o') (h1:w'.os=w.os) (h2:w'.tape=w.tape) (h3:w'.output=w.output):
  HR g (jG f (id,V o')) w'/\Fr g f w g (jG f (id,V o')) w':=by
 have hb:b<w.heap.size:=by
  let ⟨b',c',q1,q2,_⟩:=h.ob id o hf;rw[hρ] at q1;obtain ⟨rfl,rfl⟩:b=b'/\c=c':=by simpa using q1
  exact q2
 refine ⟨⟨λj x hx=> ?_,λi j x y b1 c1 d1 hx hy e1 e2=> ?_⟩,⟨h1,h2,h3,W,.refl _,λk hk hn=>Ls k (λe=>hn ⟨id,o,c,hf,by rw[e];exact hρ⟩),λk hk hm=> ?_⟩⟩
 .simp only[jG] at hx;split at hx
  .rename_i e;subst e;cases hx;exact ⟨b,c,hρ,W,Jq⟩
  .rename_i e;let ⟨b1,c1,q1,q2,q3⟩:=h.ob j x hx;refine ⟨b1,c1,q1,W,q3.mono (.refl _) q1 (Ls b1 (λe'=> ?_))⟩
   subst e';exact e (h.inj j id x o b1 c1 c hx hf q1 hρ)
 .have key:∀k z,jG f (id,V o') k=V z->∃z',f k=V z':=by
   intro k z hz;simp only[jG] at hz;split at hz
   .rename_i e;subst e;exact ⟨o,hf⟩
   .exact ⟨z,hz⟩
  let ⟨x',qG⟩:=key i x hx;let ⟨y',hy'⟩:=key j y hy;exact h.inj i j x' y' b1 c1 d1 qG hy' e1 e2
 .let ⟨j,x,d,hx,hd⟩:=hm;simp only[jG] at hx;split at hx
  .rename_i e;subst e;exact ⟨_,o,d,hf,hd⟩
  .exact ⟨j,x,d,hx,hd⟩
def HR.alloc (h:HR g f w) (hn:g.ρ new=A) {o':SO} (hw:w'=w.alloc ob) (Jq:OR (g.bind new (w.heap.size,0) l e) w' new w.heap.size 0 o'):
  HR (g.bind new (w.heap.size,0) l e) (jG f (new,V o')) w'/\Fr g f w (g.bind new (w.heap.size,0) l e) (jG f (new,V o')) w':=by
 subst hw;have Ob:=h.Ji hn;have lm:=Gh.Jn (p:=(w.heap.size,0)) (l:=l) (e:=e) hn;have oG:(w.alloc ob).heap.size=w.heap.size+1:=by simp
 refine ⟨⟨λj x hx=> ?_,λi j x y b1 c1 d1 hx hy e1 e2=> ?_⟩,⟨rfl,rfl,rfl,W,lm,λk hk _=>heap_alloc_old w ob hk,λk hk hm=> ?_⟩⟩
 .simp only[jG] at hx;split at hx
  .rename_i e;subst e;cases hx;exact ⟨w.heap.size,0,Gh.kG _ _ _ _ _,W,Jq⟩
  .rename_i e;let ⟨b1,c1,q1,q2,q3⟩:=h.ob j x hx;exact ⟨b1,c1,(Gh.nC g _ _ _ e).trans q1,W,q3.mono lm q1 (heap_alloc_old w ob q2)⟩
 .simp only[jG] at hx hy;split at hx
  .rename_i ei;subst ei;split at hy
   .rename_i ej;exact ej.symm
   .rename_i ej;rw[Gh.kG] at e1;rw[Gh.nC g _ _ _ ej] at e2;let ⟨b2,c2,q1,q2,_⟩:=h.ob j y hy;rw[e2] at q1;simp at e1 q1;omega
  .rename_i ei;rw[Gh.nC g _ _ _ ei] at e1;split at hy
   .rename_i ej;subst ej;rw[Gh.kG] at e2;let ⟨b2,c2,q1,q2,_⟩:=h.ob i x hx;rw[e1] at q1;simp at e2 q1;omega
   .rename_i ej;rw[Gh.nC g _ _ _ ej] at e2;exact h.inj i j x y b1 c1 d1 hx hy e1 e2
 .let ⟨j,x,d,hx,hd⟩:=hm;simp only[jG] at hx;split at hx
  .rename_i e;subst e;rw[Gh.kG] at hd;simp at hd;omega
  .rename_i e;rw[Gh.nC g _ _ _ e] at hd;exact ⟨j,x,d,hx,hd⟩
def HR.kill (h:HR g f w) (id:Nat):HR g (jG f (id,A)) w/\Fr g f w g (jG f (id,A)) w:=by
 have key:∀k z,jG f (id,A) k=V z->f k=V z:=by
  intro k z hz;simp only[jG] at hz;split at hz
  .simp at hz
  .exact hz
 refine ⟨h.sub key,⟨rfl,rfl,rfl,cM _,.refl _,λ_ _ _=>rfl,λk hk hm=> ?_⟩⟩
 let ⟨j,x,d,hx,hd⟩:=hm;exact ⟨j,x,d,key j x hx,hd⟩
def HR.rename (h:HR g f w) {id b c':Nat} {o o':SO} (hn:g.ρ new=A) (hf:f id=V o) (hρ:g.ρ id=V (b,c)) (oG:w'.heap.size=w.heap.size) (Ls:∀k,k≠b->w'.heap[k]? =w.heap[k]?) (Jq:OR (g.bind new (b,c') l e) w' new b c' o') (h1:w'.os=w.os) (h2:w'.tape=w.tape) (h3:w'.output=w.output):
  HR (g.bind new (b,c') l e) (jG (jG f (id,A)) (new,V o')) w'/\Fr g f w (g.bind new (b,c') l e) (jG (jG f (id,A)) (new,V o')) w':=by
 have lm:=Gh.Jn (p:=(b,c')) (l:=l) (e:=e) hn;have Ob:=h.Ji hn;have hb:b<w.heap.size:=by
  let ⟨b',c',q1,q2,_⟩:=h.ob id o hf;rw[hρ] at q1;obtain ⟨rfl,rfl⟩:b=b'/\c=c':=by simpa using q1
  exact q2
 have key:∀j x,jG (jG f (id,A)) (new,V o') j=V x->(j=new/\x=o')\/(j≠new/\j≠id/\f j=V x):=by
  intro j x hx;simp only[jG] at hx;split at hx
  .rename_i e;cases hx;exact .inl ⟨e,rfl⟩
  .rename_i e;split at hx
   .simp at hx
   .rename_i e';exact .inr ⟨e,e',hx⟩
 have xT:∀j x d,j≠id->f j=V x->g.ρ j=V (b,d)->False:=λj x d hj hx hd=>hj (h.inj j id x o b d c hx hf hd hρ)
 refine ⟨⟨λj x hx=> ?_,λi j x y b1 c1 d1 hx hy e1 e2=> ?_⟩,⟨h1,h2,h3,W,lm,λk hk hn=>Ls k (λe=>hn ⟨id,o,c,hf,by rw[e];exact hρ⟩),λk hk hm=> ?_⟩⟩
 .rcases key j x hx with ⟨rfl,rfl⟩|⟨q1,q2,q3⟩
  .exact ⟨b,c',Gh.kG _ _ _ _ _,W,Jq⟩
  .let ⟨b1,c1,r1,r2,r3⟩:=h.ob j x q3;exact ⟨b1,c1,(Gh.nC g _ _ _ q1).trans r1,W,r3.mono lm r1 (Ls b1 (λe=>by subst e;exact xT j x c1 q2 q3 r1))⟩
 .rcases key i x hx with ⟨rfl,rfl⟩|⟨q1,q2,q3⟩<;>rcases key j y hy with ⟨rfl,rfl⟩|⟨r1,r2,r3⟩
  .rfl
  .rw[Gh.kG] at e1;rw[Gh.nC g _ _ _ r1] at e2;obtain ⟨rfl,_⟩:b=b1/\c'=c1:=by simpa using e1
   exact (xT j y d1 r2 r3 e2).elim
  .rw[Gh.kG] at e2;rw[Gh.nC g _ _ _ q1] at e1;obtain ⟨rfl,_⟩:b=b1/\c'=d1:=by simpa using e2
   exact (xT i x c1 q2 q3 e1).elim
  .rw[Gh.nC g _ _ _ q1] at e1;rw[Gh.nC g _ _ _ r1] at e2;exact h.inj i j x y b1 c1 d1 q3 r3 e1 e2
 .let ⟨j,x,d,hx,hd⟩:=hm;rcases key j x hx with ⟨rfl,rfl⟩|⟨q1,q2,q3⟩
  .rw[Gh.kG] at hd;obtain ⟨rfl,_⟩:b=k/\c'=d:=by simpa using hd
   exact ⟨id,o,c,hf,hρ⟩
  .rw[Gh.nC g _ _ _ q1] at hd;exact ⟨j,x,d,q3,hd⟩
def wN {b:Nat} {kw:jQ} (h:w.heap[b]? =V (.cells kw e fz)):w.cell? ⟨b,o,A⟩=kw[o]? :=by simp[World.cell?,h]
def add_lit (b o j:Nat):(⟨b,o,A⟩:Addr).add j=⟨b,o+j,A⟩:=by unfold Addr.add;split<;>simp_all
def Cells.gN {id b:Nat} {cs:bj} (h:Cells g w id b o e cs) (off n:Nat) (hl:off+n<=O cs):
  ∃vs:gn,O vs=n/\iR g vs ((cs.drop off).take n)/\∀j v,vs[j]? =V v->w.cell? ⟨b,o+off+j,A⟩=V v:=by
 let ⟨⟨kw,h1,h0,vs,h2,h3⟩,h4⟩:=h;refine ⟨(vs.drop off).take n,?_,(h2.drop off).take n,λj v hv=> ?_⟩
 .have:=h2.length;simp;omega
 .rw[wN h1];rw[eO] at hv;split at hv
  .rw[fF] at hv;rw[il];exact h3 _ _ hv
  .simp at hv
def akI:∀{cs:bj},xW cs=I->∀{j:Nat} {x:SV},cs[j]? =V x->MQ x=U
 | [],_,j,x,h=>by simp at h
 |y::cs,hd,j,x,h=>by
  have hd:aT (MQ y) U (xW cs)=I:=hd;rw[cx] at hd;split at hd
  .cases hd
  .rename_i hu;cases j with
   |zero=>
    have e:y=x:=by simpa using h
    rw[<-e];simpa using hu
   |succ j=>exact akI hd (by simpa using h)
def OR.gN {id b:Nat} {x:SO} {p:Ey×bj} (h:OR g w id b o x) (hx:jD (V x) off n=V p) (hl:off+n<=O p.2):
  ∃vs:gn,O vs=n/\iR g vs ((p.2.drop off).take n)/\∀j v,vs[j]? =V v->w.cell? ⟨b,o+off+j,A⟩=V v:=by
 cases x with
 |cells e cs=>cases hx;exact Cells.gN h off n hl
 |ro cs=>
  let ⟨hd,hx⟩:=bf (show aT (xW ((cs.drop off).take n)) (V (0,cs)) A=V p from hx);cases hx;let ⟨kw,e,fz,h1,_,h2⟩:=h;have oG:n=0\/o+off+n<=kw.size:=by
   by_cases hn:n=0
   .exact .inl hn
   .right;have hl:off+n<=O cs:=hl;have cT:off+n-1<O cs:=by omega
    let ⟨v,a,_⟩:=h2 (off+n-1) cs[off+n-1] (by simp[cT])
    have:=(pq.1 a).1;omega
  have li:O ((kw.toList.drop (o+off)).take n)=n:=by
   rcases oG with h|h
   .subst h;simp
   .simp;omega
  have nO:∀j v,((kw.toList.drop (o+off)).take n)[j]? =V v->j<n/\kw[o+off+j]? =V v:=λj v hv=>by
   rw[eO] at hv;split at hv
   .rw[fF] at hv;exact ⟨by assumption,by simpa using hv⟩
   .cases hv
  refine ⟨(kw.toList.drop (o+off)).take n,li,iR.mk (by rw[li,dv,iz];have hl:off+n<=O cs:=hl;show n=min n (O cs-off);omega) (λj v y hv hy=> ?_),λj v hv=> ?_⟩
  .have hu:=akI hd hy;let ⟨hj,hv⟩:=nO j v hv;have hy:((cs.drop off).take n)[j]? =V y:=hy;rw[eO,ax hj,fF] at hy;let ⟨v',a,b⟩:=h2 (off+j) y hy;have e:v'=v:=by
    rw[show o+(off+j)=o+off+j by omega,hv] at a
    simpa using a.symm
   rw[<-e];exact b hu
  .let ⟨_,hv⟩:=nO j v hv;rw[wN h1];exact hv
 |_=>cases hx
def DV {cs xs:List Y} (h:off+O xs<=O cs) (j:Nat):
  (cs.take off++xs++cs.drop (off+O xs))[j]? =if off<=j/\j<off+O xs then xs[j-off]? else cs[j]? :=by
 by_cases h1:j<off
 .rw[au W,l6,nc ap,eO]
  simp[h1]
 .by_cases h2:j<off+O xs
  .rw[ax ⟨W,h2⟩,nc ap,nW ap]
   congr 1;simp[fG (W:off<=O cs)]
  .rw[nW ap,fF,au W]
   congr 1;simp[fG (W:off<=O cs)]
   omega
def ajQ (cs:bj) (off:Nat) (xs:bj):eX cs off xs=cs.take off++xs++cs.drop (off+O xs):=rfl
def Cells.store {id b:Nat} {cs:bj} (h:Cells g w id b o e cs) {us:gn} {xs:bj} (hx:iR g us xs) (hl:off+O xs<=O cs):
  ∃w',(storeCells ⟨b,o+off,A⟩ us 0).run P w= .ok () w'/\Cells g w' id b o e (eX cs off xs)/\w'.heap.size=w.heap.size/\(∀k,k≠b->w'.heap[k]? =w.heap[k]?)/\w'.os=w.os/\w'.tape=w.tape/\w'.output=w.output:=by
 have hul:=hx.length;by_cases hu0:us= []
 .subst hu0;have G6:xs= []:=wZ (by simpa using hul.symm)
  subst G6;refine ⟨w,rfl,?_,rfl,λ_ _=>rfl,rfl,rfl,rfl⟩
  have:eX cs off []=cs:=by rw[ajQ];simp
  rw[this];exact h
 let ⟨⟨kw,h1,h0,vs,h2,h3⟩,h4⟩:=h;have hvl:=h2.length;have N2:0<O us:=by cases us with|nil=>exact absurd rfl hu0|cons _ _=>simp
 have oG:o+off+O us<=kw.size:=by
  have cT:off+O us-1<O vs:=by omega
  have:=h3 (off+O us-1) vs[off+O us-1] (by simp[cT])
  have:=(pq.1 this).1;omega
 have rU:=run_storeCells_at P b (o+off) e us 0 kw w h1 W hx.one
 simp only[po] at rU;refine ⟨_,rU,⟨⟨_,setRow_heap w b kw _ e _ h1,?_,vs.take off++us++vs.drop (off+O us),?_,?_⟩,h4⟩,am,λk hk=>setRow_other w b k _ hk,rfl,rfl,rfl⟩
 .simp;omega
 .rw[ajQ,<-hul];exact ((h2.take off).append hx).append (h2.drop _)
 .intro j v hv;rw[DV W] at hv
  have hg:(kw.toList.take (o+off)++us++kw.toList.drop (o+off+O us)).toArray[o+j]? =if o+off<=o+j/\o+j<o+off+O us then us[o+j-(o+off)]? else kw[o+j]? :=by
   rw[M4,DV ap]
   simp
  rw[hg];split at hv
  .rename_i hc;rw[ax W]
   have:o+j-(o+off)=j-off:=by omega
   rw[this];exact hv
  .rename_i hc;rw[au W]
   exact h3 j v hv
end
section
variable {E:Env} {g:Gh} {f:Hf} {w:World}
variable {P:Y'} {kc:UQ}
structure hZ (g:Gh) (f:Hf) (w:World) (v:SV) (us:ia) (new:Nat) (r:O') (g':Gh) (w':World):Prop where
 val:VR g' r v
 hr:HR g' (iH f us) w'
 fr:Fr g f w g' (iH f us) w'
 ro:∀id,id≠new->g'.ρ id=g.ρ id
 nil:us= []->g'=g
def hZ.same (h:HR g f w) {v:SV} (hv:VR g r v):hZ g f w v [] new r g w:=⟨hv,h,Fr.refl _ _ _,λ_ _=>rfl,λ_=>rfl⟩
def HR.at (h:HR g f w) {id b:Nat} {o:SO} (hf:f id=V o) (hρ:g.ρ id=V (b,c)):b<w.heap.size/\OR g w id b c o:=by
 let ⟨b',c',q1,q2,q3⟩:=h.ob id o hf;rw[hρ] at q1;obtain ⟨rfl,rfl⟩:b=b'/\c=c':=by simpa using q1
 exact ⟨q2,q3⟩
def ans {i:TI} (hT:Gd P t i) (ha:oj i.desc=I) {vs:gn} (hl:O vs=i.size) (ad:Addr) (h:∀j v,vs[j]? =V v->w.cell? (ad.add j)=V v):(loadVar t ad).run P w= .ok (.agg vs.toArray) w:=by
 have:=run_loadCells_list (P:=P) w ad vs h;rw[hl] at this;simp only[loadVar,P',DX hT,ha,V',az,qa hT,this,X']
def anr {i:TI} (hT:Gd P t i) (ha:oj i.desc=U) (ad:Addr) (h:w.cell? ad=V v):(loadVar t ad).run P w= .ok v w:=by
 simp only[loadVar,P',DX hT,ha,V',ay,aw,run_load,h]
def aad (hE:fU E g) (h:HR g f w) {x z:SV} (hu:VR g u x) (AT:sy E f t x=V z):∃r,(Instr.loadAt t u).run E.P w= .ok r w/\VR g r z:=by
 let ⟨q,h1,hl⟩:=ak AT;let ⟨i,hi,hl⟩:=ak hl;let ⟨p,hp,hl⟩:=ak hl;obtain rfl:=so h1;have hT:=hE.ty t i hi;have hx:∃x,f q.1=V x/\jD (V x) q.2 (wide i)=V p:=by
  cases hf:f q.1 with
  |none=>rw[hf] at hp;cases hp
  |some x=>exact ⟨x,rfl,by rw[<-hf];exact hp⟩
 let ⟨x,hf,hx⟩:=hx;cases hu with
 | @ptr _ _ b o hρ=>
  have hc:OR g w q.1 b o x:=(h.at hf hρ).2;unfold jr at hl;rw[cx] at hl;split at hl
  .rename_i ha;let ⟨lm,hl⟩:=bf hl;have lm:=(bO _ _).1 lm;cases hl;have hw:wide i=i.size:=by unfold wide;rw[ha]
   rw[hw] at hx;let ⟨vs,v1,v2,v3⟩:=hc.gN hx lm;refine ⟨.agg vs.toArray,?_,.agg (by simpa using v2)⟩
   simp only[Instr.loadAt,Pk,P',X',V'];exact ans hT ha v1 _ (λj v hj=>by rw[add_lit];exact v3 j v hj)
  .rename_i ha;have cT:q.2<O p.2:=(bk.1 hl).1;have hw:wide i=1:=by unfold wide;rw[show oj i.desc=U by simpa using ha]
   rw[hw] at hx;let ⟨vs,v1,v2,v3⟩:=hc.gN hx W
   have hz:((p.2.drop q.2).take 1)[0]? =V z:=by rw[eO,ax W,fF,po];exact hl
   let ⟨v,hv,_,hd⟩:=v2.get hz;refine ⟨v,?_,hd⟩;simp only[Instr.loadAt,Pk,P',X',V'];exact anr hT (by simpa using ha) _ (by have:=v3 0 v hv;rwa[po] at this)
def amZ (hE:fU E g) (h:HR g f w) {x y:SV} (hu:VR g u x) (hv:VR g v y) {us:ia} (AT:xK E f t y x=V us):
  ∃w',(Instr.storeAt t u v).run E.P w= .ok () w'/\HR g (iH f us) w'/\Fr g f w g (iH f us) w':=by
 let ⟨q,h1,hl⟩:=ak AT;let ⟨i,xs,p,hi,hxs,hp,hl⟩:=Ed hl;obtain rfl:=so h1;let ⟨hc,hl⟩:=bf hl;cases hl;rw[bI] at hc;have li:=(f9 _ _).1 hc.1;have lm:=(bO _ _).1 hc.2;have hf:=sY hp;have hT:=hE.ty t i hi;have hcr:=hv.jD hxs;cases hu with
 | @ptr _ _ b o hρ=>
  have Jv:Cells g w q.1 b o p.1 p.2:=(h.at hf hρ).2;let ⟨w',q1,q2,q3,q4,q5,q6,q7⟩:=Jv.store (P:=E.P) hcr lm;let ⟨r1,r2⟩:=h.write (o':=.cells p.1 (eX p.2 q.2 xs)) hf hρ q3 q4 q2 q5 q6 q7;refine ⟨w',?_,r1,r2⟩;have oG:v.cells.size=i.size:=by rw[<-li,<-hcr.length];simp
  simp only[Instr.storeAt,Pk,storeVar,P',X',V',qa hT,oG,ne_eq,not_true,aw,Om];exact q1
def iR.eX {vs us:gn} {cs xs:bj} (h:iR g vs cs) (k:iR g us xs):iR g (vs.take off++us++vs.drop (off+O us)) (bM.eX cs off xs):=by
 rw[ajQ,k.length];exact ((h.take off).append k).append (h.drop _)
def D9 (place:Nat->G (Nat×Nat)):∀(jp:List (Nat×O')) (jH:List (Nat×bj)) (vs:jQ) (cs rs:bj),iR g vs.toList cs->
  O jp=O jH->(∀(j:Nat) (i:Nat) (v:O') (i':Nat) (xs:bj),jp[j]? =V (i,v)->jH[j]? =V (i',xs)->i=i'/\iR g v.cells.toList xs)->pj place cs jH=V rs->
  ∃us,Instr.fill place vs jp=V us/\iR g us.toList rs
 | [],[],vs,cs,rs,hc,_,_,h=>by cases h;exact ⟨vs,rfl,hc⟩
 |(i,v)::jp,(i',xs)::jH,vs,cs,rs,hc,hl,hp,h=>by
  obtain ⟨rfl,hx⟩:=hp 0 i v i' xs rfl rfl;let ⟨q,um,h⟩:=ak (show aA (place i) (λq=>aT (Cz (O xs) q.2&&D' (E' q.1 q.2) (O cs)) (pj place (bM.eX cs q.1 xs) jH) A)=V rs from h)
  let ⟨asS,h⟩:=bf h;rw[bI] at asS;have h1:=(f9 _ _).1 asS.1;have h2:q.1+q.2<=O cs:=(bO _ _).1 asS.2;let ⟨off,size⟩:=q;simp only at h1 h2 um h;have hvl:v.cells.size=size:=by rw[<-h1,<-hx.length];simp
  have dX:vs.size=O cs:=by rw[<-hc.length];simp
  have aSU:(v.cells.zipIdx.foldl (λcs (c,j)=>cs.setIfInBounds (off+j) c) vs).toList=vs.toList.take off++v.cells.toList++vs.toList.drop (off+O v.cells.toList):=by
   rw[<-Array.foldl_toList,Array.toList_zipIdx];let ⟨f1,f2⟩:=Great.foldl_set off v.cells.toList 0 vs;apply pK;intro j;rw[DV ap]
   have:=f2 j;simp only[po] at this;rw[ng];refine this.trans ?_;simp only[Pz,ng];by_cases hj:off<=j/\j<off+v.cells.size
   .rw[ax hj,ax ⟨hj.1,hj.2,W⟩]
   .rw[au hj,au W]
  have jm:=hc.eX hx (off:=off);rw[<-aSU] at jm;let ⟨us,hu1,hu2⟩:=D9 place jp jH _ _ rs jm (by simpa using hl) (λj i v i' xs ha hb=>hp (j+1) i v i' xs (by simpa using ha) (by simpa using hb)) h
  refine ⟨us,?_,hu2⟩;unfold Instr.fill;simp only[um];rw[au (by simp[hvl];omega)]
  exact hu1
 | [],_::_,_,_,_,_,hl,_,_=>by simp at hl
 |_::_,[],_,_,_,_,hl,_,_=>by simp at hl
def akT {nt:Nat} {tm:Tf} {a:Act} (h:FR g nt tm a.tmps):∀(jp:List (Nat×S')) (l:List (Nat×bj)),np tm jp=V l->
  O jp=O l/\∀(j:Nat) (i:Nat) (v:O') (i':Nat) (xs:bj),(jp.map λ(i,x)=>(i,a.eval x))[j]? =V (i,v)->l[j]? =V (i',xs)->i=i'/\iR g v.cells.toList xs
 | [],l,hp=>by cases hp;simp
 |(i,x)::jp,l,hp=>by
  let ⟨v,hv,hp⟩:=ak hp;let ⟨cs,l',hc,AU,hp⟩:=bV hp;cases hp;let ⟨h1,h2⟩:=akT h jp l' AU;refine ⟨by simp[h1],λj i1 u i2 xs ha hb=> ?_⟩
  cases j with
  |zero=>
   simp at ha hb;obtain ⟨rfl,rfl⟩:=ha;obtain ⟨rfl,rfl⟩:=hb;exact ⟨rfl,(uf h hv).jD hc⟩
  |succ j=>simp at ha hb;exact h2 j i1 u i2 xs (by simpa using ha) hb
def are {i:TI} (h:Gd P t i):∃z,(∀w,(zeroValue t).run P w= .ok z w)/\(∀g,iR g z.cells.toList i.zero):=by
 let ⟨z,h1,h2,_⟩:=awF h;exact ⟨z,h1,h2.1⟩
def alk {p p':Nat->G (Nat×Nat)} (hp:∀j q,p j=V q->p' j=V q):∀(jH:List (Nat×bj)) (cs rs:bj),pj p cs jH=V rs->pj p' cs jH=V rs
 | [],cs,rs,h=>h
 |(i,xs)::jH,cs,rs,h=>by
  let ⟨q,h1,h⟩:=ak (show aA (p i) (λq=>aT (Cz (O xs) q.2&&D' (E' q.1 q.2) (O cs)) (pj p (bM.eX cs q.1 xs) jH) A)=V rs from h)
  let ⟨hc,h⟩:=bf h;show aA (p' i) (λq=>aT (Cz (O xs) q.2&&D' (E' q.1 q.2) (O cs)) (pj p' (bM.eX cs q.1 xs) jH) A)=V rs
  rw[hp _ _ h1];show aT (Cz (O xs) q.2&&D' (E' q.1 q.2) (O cs)) (pj p' (bM.eX cs q.1 xs) jH) A=V rs;rw[hc];exact alk hp jH _ _ h
def abq (P:Y'):∀(l:List Field),(∀f∈l,(P.info? f.type).isSome=I)->∃Fm,l.mapM (λf=>(P.info? f.type).map λi=>(f.offset,i.size))=V Fm/\
  ∀(j:Nat) (f:Field) (i:TypeInfo),l[j]? =V f->P.info? f.type=V i->Fm[j]? =V (f.offset,i.size)
 | [],_=>⟨[],rfl,am⟩
 |f::l,h=>by
  let ⟨Fm,h1,h2⟩:=abq P l (λx hx=>h x (by simp[hx]))
  let ⟨i,hi⟩:=PA.1 (h f am)
  refine ⟨(f.offset,i.size)::Fm,by simp[asV,hi,h1],λj x ix hx CO=> ?_⟩
  cases j with
  |zero=>simp at hx;subst hx;rw[hi] at CO;cases CO;rfl
  |succ j=>simp at hx;simpa using h2 j x ix hx CO
def acn {r:G bj} {z:SV} (h:OK r=V z):∃cs,r=V cs/\z= .agg cs:=by
 let ⟨cs,h1,h2⟩:=ak h;cases h2;exact ⟨cs,h1,rfl⟩
def anD (hE:fU E g) {jH:List (Nat×bj)} {x:SV} (qu:OG E t jH=V x) (hl:jp.size=O jH) (hp:∀(j:Nat) (i:Nat) (v:O') (i':Nat) (xs:bj),jp.toList[j]? =V (i,v)->jH[j]? =V (i',xs)->i=i'/\iR g v.cells.toList xs) (w:World):
  ∃v,(Instr.build t jp).run E.P w= .ok v w/\VR g v x:=by
 let ⟨i,hi,hb⟩:=ak qu;have hT:=hE.ty t i hi;let ⟨it,zv,q1,_,_,_,q5,q6,_⟩:=hT.info;have hz:=q6.1 g;have hd:=hT.desc;generalize i.desc=D at hd hb;cases D with
 |array n e=>
  let ⟨ie,pi,hb⟩:=ak (show aA (E.ty.get e) (λie=>OK (pj (ve ie.size) i.zero jH))=V x from hb)
  obtain ⟨rs,hf,rfl⟩:=acn hb;let ⟨us,hu1,hu2⟩:=D9 (ve ie.size) jp.toList jH zv.cells i.zero rs hz (by simpa using hl) hp hf
  let ⟨fe,_,e1,e2,_⟩:=(hE.ty e ie pi).info;refine ⟨.agg us,run_build w t jp us ?_,.agg hu2⟩;unfold Program.built;simp only[q1,(show E.P.underlying t=V (.array n e) from hd),q5,e1,e2];exact hu1
 |struct fs=>
  let ⟨a,hu,hfs,jJ⟩:=hd;obtain ⟨rs,hf,rfl⟩:=acn (show OK (pj (UG E fs) i.zero jH)=V x from hb);let ⟨Fm,p1,p2⟩:=abq E.P a.toList jJ;have hf':=alk (p':=(Fm.toArray[·]?)) (λj q hq=>by
   let ⟨fl,h1,h2⟩:=ak hq;let ⟨fi,h3,h4⟩:=ak h2;cases h4;rw[<-hfs,my] at h1;cases hj:a.toList[j]? with
   |none=>rw[hj] at h1;simp at h1
   |some fd=>
    rw[hj] at h1;simp at h1;subst h1;let ⟨ff,_,e1,e2,_⟩:=(hE.ty _ fi h3).info;have:=p2 j fd ff hj e1;rw[e2] at this;simpa using this) jH _ _ hf
  let ⟨us,hu1,hu2⟩:=D9 (Fm.toArray[·]?) jp.toList jH zv.cells i.zero rs hz (by simpa using hl) hp hf'
  refine ⟨.agg us,run_build w t jp us ?_,.agg hu2⟩;unfold Program.built;simp only[q1,hu,q5,p1];exact hu1
 |_=>cases hb
def abU {Y:Type} [Inhabited Y] (zs:List Y) (s:Nat) (hs:O zs=s):∀n,(List.range (n*s)).map (λk=>zs.toArray[k % s]!)=(Va n zs).flatten
 |0=>am
 |n+1=>by
  have e:(n+1)*s=s+n*s:=by rw[gz];omega
  rw[e,List.range_add,ky,we,asj,qQ,<-abU zs s hs n];congr 1
  .apply pK;intro j;rw[my];by_cases hj:j<s
   .rw[List.getElem?_range hj];simp[Nat.mod_eq_of_lt hj,hs,hj]
   .rw[mw ap,mw W];rfl
  .refine EV λk _=> ?_
   simp
def aoJ {vs:gn} {cs:bj} (h:iR g vs cs):∀n,iR g (Va n vs).flatten (rep cs n)
 |0=>by simpa using .nil
 |n+1=>by rw[asj,qQ];exact h.append (aoJ h n)
def GJ {i:TI} (hT:Gd P t i) (h1:P.info? t=V it) (h2:it.zero=V z) (qH:nv i=I) (n:Nat):
  iR g ((Array.range (n*it.size)).map (z.cells[· % z.cells.size]!)).toList (rep i.zero n)/\it.size=i.size/\1<=i.size/\it.bytes<=65536/\z.cells.size=i.size:=by
 let ⟨it',z',q1,q2,q3,_,q5,q6,_⟩:=hT.info;rw[h1] at q1;cases q1;rw[h2] at q5;cases q5;unfold nv at qH;rw[bI,bI] at qH;have k1:=(bO _ _).1 qH.1;have k2:=(bO _ _).1 qH.2.1;have k3:=(f9 _ _).1 qH.2.2;have hzl:z.cells.size=i.size:=by rw[<-k3,<-(q6.1 g).length];simp
 refine ⟨?_,q2,k2,W,hzl⟩
 have:=aoJ (q6.1 g) n;rw[<-abU z.cells.toList i.size (by simpa using hzl) n] at this
 rw[Array.toList_map,Array.toList_range,q2,hzl];simpa using this
def HR.row (h:HR g f w) (hn:g.ρ new=A) {arr:jQ} {vs:gn} {cs:bj} (hw0:w0.heap=w.heap/\w0.os=w.os/\w0.tape=w.tape/\w0.output=w.output) (hw:w'=w0.alloc (.cells arr e)) (hc:iR g vs cs) (zd:∀(j:Nat) (v:O'),vs[j]? =V v->arr[j]? =V v) {v:SV} (hl:l<=arr.size) (hv:VR (g.bind new (w.heap.size,0) l e) r v):hZ g f w v [(new,V (.cells e cs))] new r (g.bind new (w.heap.size,0) l e) w':=by
 have h0:HR g f w0:=⟨λid o ho=>by
   let ⟨b,c,q1,q2,q3⟩:=h.ob id o ho;exact ⟨b,c,q1,by rw[hw0.1];exact q2,q3.mono (.refl _) q1 (by rw[hw0.1])⟩,h.inj⟩
 have hs:w0.heap.size=w.heap.size:=by rw[hw0.1]
 have Jv:OR (g.bind new (w0.heap.size,0) l e) w' new w0.heap.size 0 (.cells e cs):=
  ⟨⟨arr,by rw[hw];exact heap_alloc_new w0 _,by rw[Gh.BI];omega,vs,hc.mono (Gh.Jn hn),λj v hv=>by rw[cN];exact zd j v hv⟩,Gh.EM _ _ _ _ _⟩
 let ⟨r1,r2⟩:=h0.alloc hn (o':=.cells e cs) hw Jv;rw[hs] at r1 r2;exact ⟨hv,r1,⟨r2.os.trans hw0.2.1,r2.tape.trans hw0.2.2.1,r2.output.trans hw0.2.2.2,by have:=r2.size;omega,r2.le,λb hb hm=>(r2.old b W hm).trans (by rw[hw0.1]),λb hb hm=>r2.own b W hm⟩,λid dd=>Gh.nC _ _ _ _ dd,λFE=>by cases FE⟩
def ae7 (hE:fU E g) (h:HR g f w) (hn:g.ρ new=A) {tm:Tf} (jB:FR g nt tm a.tmps) {len:Nat} {jp:Array (Nat×S')} {jH:List (Nat×bj)} (hpc:np tm jp.toList=V jH) {v:SV} {us:ia} (gH:rb E new t len jH=V (v,us)):
  ∃r w' g',(Instr.buildSlice t len (jp.map λ(i,x)=>(i,a.eval x))).run E.P w= .ok r w'/\hZ g f w v us new r g' w':=by
 let ⟨i,hi,ho⟩:=ak gH;let ⟨e,he,ho⟩:=ak ho;let ⟨ie,pi,ho⟩:=ak ho;let ⟨hc,ho⟩:=bf ho;let ⟨cs,hf,ho⟩:=ak ho;cases ho;rw[bI] at hc;have hsm:=(bO _ _).1 hc.2;have hd:=(hE.ty t i hi).desc;rw[sP he] at hd;have hT:=hE.ty e ie pi;let ⟨it,z,q1,q2,_,_,q5,_⟩:=hT.info;let ⟨z1,z2,z3,z4,z5⟩:=GJ (g:=g) hT q1 q5 hc.1 len;let ⟨hl,hpt⟩:=akT jB jp.toList jH hpc;let ⟨arr,f1,f2⟩:=D9 (ve ie.size) (jp.map λ(i,x)=>(i,a.eval x)).toList jH _ _ cs z1 (by simpa using hl) (λj i v i' xs h1 h2=>hpt j i v i' xs (by simpa using h1) h2) hf
 have hv:VR (g.bind new (w.heap.size,0) 0 e) (.slice (V ⟨w.heap.size,0,A⟩) len len) (.sl new 0 len (.k len)):=.sl (id:=new) (off:=0) (o:=0) (b:=w.heap.size) (cap:=.k len) (Gh.kG _ _ _ _ _) (cM _) (λm hm=>by cases hm;rfl) (λe hm=>by cases hm)
 refine ⟨_,_,_,?_,h.row hn (w0:=w) (w':=w.alloc (.cells arr e)) ⟨rfl,rfl,rfl,rfl⟩ rfl f2 (λj v hv=>by simpa using hv) (rY _) hv⟩
 by_cases h0:len=0
 .subst h0;have oI:jH= []:=by
   cases jH with
   |nil=>rfl
   |cons p ps=>
    let ⟨q,r1,r2⟩:=ak (show aA (ve ie.size p.1) (λq=>aT (Cz (O p.2) q.2&&D' (E' q.1 q.2) (O (rep ie.zero 0))) (pj (ve ie.size) (bM.eX (rep ie.zero 0) q.1 p.2) ps) A)=V cs from hf)
    cases r1;let ⟨r3,_⟩:=bf r2;rw[bI] at r3;have:=(bO _ _).1 r3.2;simp[rep] at this;omega
  subst oI;have hp0:jp= #[]:=by apply Cg;exact wZ (by simpa using hl)
  subst hp0;simp at f1;simp[Instr.fill] at f1;simp[Instr.buildSlice,run_underlying (show E.P.underlying t=V (.slice e) from hd),sizeOf,typeInfo,q1,Instr.fill,newRow];rw[<-f1];congr 2;apply Cg;simp
 .have N2:¬len*it.size=0:=by
   rw[z2];intro he;rcases Nat.mul_eq_zero.1 he with he|he<;>omega
  have hsm':¬len*it.size>2 ^ 24:=by rw[z2];have:len*ie.size<=16777216:=hsm;omega
  refine run_buildSlice w t e len _ _ it z hd q1 q5 hsm' N2 ?_;rw[z2] at f1 ⊢;exact f1
def anp (hE:fU E g) (h:HR g f w) (hn:g.ρ new=A) {v:SV} {us:ia} (gH:Jh E new t l c=V (v,us)):
  ∃r w' g',(Instr.makeSlice t (.int kl (.ofNat l)) (.int kc (.ofNat c))).run E.P w= .ok r w'/\hZ g f w v us new r g' w':=by
 let ⟨i,hi,ho⟩:=ak gH;let ⟨e,he,ho⟩:=ak ho;let ⟨ie,pi,ho⟩:=ak ho;let ⟨hc,ho⟩:=bf ho;cases ho;rw[bI,bI] at hc;have h1:=(bO _ _).1 hc.1;have h2:=(bO _ _).1 hc.2.1;have hd:=(hE.ty t i hi).desc;rw[sP he] at hd;have hT:=hE.ty e ie pi;let ⟨it,z,q1,q2,_,_,q5,_⟩:=hT.info;let ⟨z1,z2,z3,z4,z5⟩:=GJ (g:=g) hT q1 q5 hc.2.2 c;have hb:it.bytes*c<=65536*1000000:=Nat.mul_le_mul z4 h2;have rU:=run_make w t e it z hd q1 q5 kl kc (.ofNat l) (.ofNat c) am ap (by
  have:((it.bytes*c:Nat):Int)<=281474976710656:=by omega
  simpa using this) ap
 simp only[II,IM] at rU;have hv:VR (g.bind new (w.heap.size,0) 0 e) (.slice (V ⟨w.heap.size,0,A⟩) l c) (.sl new 0 l (.k c)):=.sl (id:=new) (off:=0) (o:=0) (b:=w.heap.size) (cap:=.k c) (Gh.kG _ _ _ _ _) h1 (λm hm=>by cases hm;rfl) (λe hm=>by cases hm)
 exact ⟨_,_,_,rU,h.row hn (w0:=w) ⟨rfl,rfl,rfl,rfl⟩ rfl z1 (λj v hv=>by rw[ng] at hv;exact hv) (rY _) hv⟩
end
section
variable {E:Env} {g:Gh} {f:Hf} {w:World}
variable {P:Y'} {y:Nat} {hi:G S'}
def aa0 (hE:fU E g) (h:HR g f w) {s:Ey} {x v:SV} (hu:VR g u x) {us:ia} (gH:sU E s k x=V (v,us)):
  ∃r,(Instr.fieldAt s u k).run E.P w= .ok r w/\hZ g f w v us new r g w:=by
 let ⟨i,p,hi,hp,ho⟩:=bV gH;let ⟨fs,hfs,ho⟩:=ak ho;let ⟨fl,FJ,ho⟩:=ak ho;let ⟨fi,hfi,ho⟩:=ak ho;let ⟨hc,ho⟩:=bf ho;cases ho;obtain rfl:=so hp;have hd:=(hE.ty s i hi).desc;rw[ac1 hfs] at hd;let ⟨a,vk,ha,jJ⟩:=hd;subst ha;rw[my] at FJ;cases hj:a.toList[k]? with
 |none=>rw[hj] at FJ;simp at FJ
 |some fd=>
  rw[hj] at FJ;simp at FJ;subst FJ;have hj':a[k]? =V fd:=by simpa using hj
  have hs:=qa (hE.ty _ fi hfi) w;have h1:=(bO _ _).1 hc;have dd:¬fi.size=0:=by omega
  cases hu with
  | @ptr _ _ b o hρ=>
   refine ⟨.pointer (V ⟨b,o+(p.2+fd.offset),A⟩),?_,hZ.same h (.ptr hρ)⟩;simp only[Instr.fieldAt,P',run_underlying vk,V',hj',Pk,X',fieldPlace,hs,au dd,Om,add_lit,il]
def aif (hE:fU E g) (h:HR g f w) {x v:SV} (hu:VR g u x) {us:ia} (gH:EH E t k x=V (v,us)):
  ∃r,(Instr.field t u k).run E.P w= .ok r w/\hZ g f w v us new r g w:=by
 let ⟨i,cs,hi,hp,ho⟩:=bV gH;let ⟨fs,hfs,ho⟩:=ak ho;let ⟨fl,FJ,ho⟩:=ak ho;let ⟨fi,hfi,ho⟩:=ak ho;let ⟨z,hz,ho⟩:=ak ho;cases ho;obtain rfl:=Ef hp;have hd:=(hE.ty t i hi).desc;rw[ac1 hfs] at hd;let ⟨a,vk,ha,jJ⟩:=hd;subst ha;rw[my] at FJ;cases hj:a.toList[k]? with
 |none=>rw[hj] at FJ;simp at FJ
 |some fd=>
  rw[hj] at FJ;simp at FJ;subst FJ;have hj':a[k]? =V fd:=by simpa using hj
  cases hu with
  |agg hc=>
   let ⟨r,r1,r2⟩:=DZ (hE.ty _ fi hfi) hz hc w;refine ⟨r,?_,hZ.same h r2⟩;simp only[Instr.field,P',run_underlying vk,V',hj',asAgg,X',r1]
def aie (hE:fU E g) (h:HR g f w) {x v:SV} (hu:VR g u x) {us:ia} (gH:Bu E t k x=V (v,us)):
  ∃r,(Instr.index t u (.int kk (.ofNat k))).run E.P w= .ok r w/\hZ g f w v us new r g w:=by
 let ⟨i,hi,ho⟩:=ak gH;have hd:=(hE.ty t i hi).desc;generalize i.desc=D at hd ho;cases D with
 |string=>
  let ⟨s,hs,ho⟩:=ak (show aA (strOf x) (λs=>aA (s.data.toList[k]?) λb=>V (SV.int .u8 (.lit (.ofNat b.toNat)),([]:ia)))=V (v,us) from ho)
  let ⟨b,hb,ho⟩:=ak ho;cases ho;obtain rfl:=sf hs;cases hu;refine ⟨.int .u8 b.toNat,?_,hZ.same h (.int _ _ (by simp[SI.ev]))⟩
  have cT:k<O s.data.toList:=(bk.1 hb).1;have hlt':k<s.size:=by simpa using cT
  have nO:s[k]? =V b:=by
   rw[getElem?_pos s k hlt'];have:s.data.toList[k]=b:=(bk.1 hb).2;rw[<-this];rfl
  have h0:(0:Int)<=OF k:=by simp
  simp only[Instr.index,asIntOf,P',X',V',run_underlying (show E.P.underlying t=V .string from hd),ax h0];simp only[II,IM,nO,X']
 |array n e=>
  let ⟨cs,ie,oI,pi,ho⟩:=bV (show cq (QE x) (E.ty.get e) (λcs ie=>aT (D' (S6 k) n) (same (jr ie cs (N' k ie.size))) A)=V (v,us) from ho)
  let ⟨hc,ho⟩:=bf ho;let ⟨z,hz,ho⟩:=ak ho;cases ho;obtain rfl:=Ef oI;have cT:k+1<=n:=(bO _ _).1 hc;cases hu with
  |agg Jv=>
   let ⟨r,r1,r2⟩:=DZ (hE.ty _ ie pi) hz Jv w;refine ⟨r,?_,hZ.same h r2⟩;have jJ:(0:Int)<=OF k/\OF k<(n:Int):=⟨am,ap⟩
   simp only[Instr.index,asIntOf,P',X',V',run_underlying (show E.P.underlying t=V (.array n e) from hd),ax jJ,qa (hE.ty _ ie pi)];exact r1
 |_=>cases ho
def aa5 (hE:fU E g) {x z:SV} (hu:VR g u x) (gH:sA E t x k=V z):
  ∃r,(Instr.indexAt t u (.int kk (.ofNat k))).run E.P w= .ok r w/\VR g r z:=by
 let ⟨i,hi,ho⟩:=ak gH;have hd:=(hE.ty t i hi).desc;generalize i.desc=D at hd ho;cases D with
 |slice e=>
  let ⟨q,hq,ho⟩:=ak (show aA (aCi x) (λq=>EK E e q.1 q.2.1 q.2.2.1 k)=V z from ho)
  let ⟨hc,ho⟩:=bf ho;let ⟨ie,pi,ho⟩:=ak ho;cases ho;obtain rfl:=axI hq;have cT:k+1<=q.2.2.1:=(bO _ _).1 hc;cases hu with
  | @sl _ _ _ b o c _ hρ hn jL wH=>
   refine ⟨.pointer (V ⟨b,o+(q.2.1+k*ie.size),A⟩),?_,.ptr hρ⟩;have jJ:(0:Int)<=OF k/\OF k<(q.2.2.1:Int):=⟨am,ap⟩
   simp only[Instr.indexAt,asIntOf,P',X',V',run_underlying (show E.P.underlying t=V (.slice e) from hd),ax jJ,qa (hE.ty _ ie pi),Om,add_lit];simp[il]
 |array n e=>
  let ⟨q,hq,ho⟩:=ak (show aA (yf x) (λq=>EK E e q.1 q.2 n k)=V z from ho)
  let ⟨hc,ho⟩:=bf ho;let ⟨ie,pi,ho⟩:=ak ho;cases ho;obtain rfl:=so hq;have cT:k+1<=n:=(bO _ _).1 hc;cases hu with
  | @ptr _ _ b o hρ=>
   refine ⟨.pointer (V ⟨b,o+(q.2+k*ie.size),A⟩),?_,.ptr hρ⟩;have jJ:(0:Int)<=OF k/\OF k<(n:Int):=⟨am,ap⟩
   simp only[Instr.indexAt,asIntOf,P',X',V',run_underlying (show E.P.underlying t=V (.array n e) from hd),Pk,ax jJ,qa (hE.ty _ ie pi),Om,add_lit];simp[il]
 |_=>cases ho
def run_sliceBound {k:UQ} (h1:n<=y) (c:BoundsCode):(Instr.sliceBound (.int k (.ofNat n)) y c).run P w= .ok n w:=by
 have:(0:Int)<=OF n/\OF n<=(y:Int):=⟨am,ap⟩
 simp only[Instr.sliceBound,asIntOf,P',X',V',Om];rw[ax this];rfl
def BZ {tm:Tf} (jB:FR g nt tm a.tmps) {x:G S'} {r:cC} (h:kF tm x=V r):
  (x=A/\r=A)\/∃y k n,x=V y/\r=V n/\a.eval y= .int k (.ofNat n):=by
 cases x with
 |none=>cases h;exact .inl ⟨rfl,rfl⟩
 |some y=>
  let ⟨v,hv,h⟩:=ak h;let ⟨n,hn,h⟩:=ak h;cases h;obtain ⟨k,rfl⟩:=xk hn;have:=uf jB hv;generalize hu:a.eval y=u at this;cases this with
  |int _ _ e=>exact .inr ⟨y,k,n,rfl,rfl,by rw[hu,e];rfl⟩
def sg {tm:Tf} (jB:FR g nt tm a.tmps) {mx:G S'} {l u m:cC} (hl:kF tm lo=V l) (hu:kF tm hi=V u) (hm:kF tm mx=V m) (DG:Bool) (len cap:Nat) (h1:l.getD 0<=u.getD len) (h2:u.getD len<=m.getD cap) (h3:m.getD cap<=cap) (h4:m≠A->u≠A):
  (Instr.sliceBounds DG len cap (lo.map a.eval) (hi.map a.eval) (mx.map a.eval)).run P w= .ok (l.getD 0,u.getD len,m.getD cap) w:=by
 rcases BZ jB hl with ⟨rfl,rfl⟩|⟨y1,k1,n1,rfl,rfl,e1⟩<;>rcases BZ jB hu with ⟨rfl,rfl⟩|⟨y2,k2,n2,rfl,rfl,e2⟩<;>rcases BZ jB hm with ⟨rfl,rfl⟩|⟨y3,k3,n3,rfl,rfl,e3⟩<;>
  simp only[AY,IK] at h1 h2 h3<;>
  first
   |exact absurd rfl (h4 (Option.some_ne_none _))
   |(
    simp only[Instr.sliceBounds,M8,Pv,P',X',V',AY,IK,Option.isSome_some,Option.isSome_none]
    try simp only[e3,run_sliceBound (P:=P) (w:=w) (k:=k3) h3,V']
    try simp only[e2,run_sliceBound (P:=P) (w:=w) (k:=k2) h2,V']
    try simp only[e1,run_sliceBound (P:=P) (w:=w) (k:=k1) h1,V'])
def Ce {m:cC} (h:pJ m=I):m.getD 0=0:=by
 cases m with
 |none=>rfl
 |some n=>exact (f9 _ _).1 h
def adb (a:Addr):a.add 0=a:=by unfold Addr.add;split<;>simp_all
def apO {id h b:Nat} {size:Nat} {m:Cp} (hρ:g.ρ id=V (b,o)) (h1:l<=h) (h2:h<=vQ) (hm:∀k,m= .k k->vQ=k) (hz:∀e,m= .u e->g.et id=e/\size=g.sz e/\off+vQ*size<=g.lim id):
  VR g (.slice (V (if vQ=l then ⟨b,o+off,A⟩ else (⟨b,o+off,A⟩:Addr).add (l*size))) (h-l) (vQ-l)) (BE id off l h size m):=by
 by_cases h0:l=0
 .subst h0;have e1:BE id off 0 h size m= .sl id off h m:=rfl;have e2:(if vQ=0 then (⟨b,o+off,A⟩:Addr) else (⟨b,o+off,A⟩:Addr).add (0*size))=⟨b,o+off,A⟩:=by
   split
   .rfl
   .rw[nX,adb]
  rw[e1,e2];exact .sl hρ W (λk hk=>by rw[hm k hk];omega) (λe hn=>by let ⟨q0,q1,q2⟩:=hz e hn;rw[<-q1];exact ⟨q0,q2⟩)
 .have e0:Cz l 0=U:=by rw[beq_eq];simpa using h0
  by_cases cT:l+1<=h
  .have e1:BE id off l h size m= .sl id (off+l*size) (h-l) (A6 m l):=by
    unfold BE;rw[e0,show D' (S6 l) h=I from (bO _ _).2 cT];rfl
   rw[e1,au W,add_lit,il]
   refine .sl hρ W (λk hk=> ?_) (λe hk=> ?_)
   .cases m with
    |u e'=>cases hk
    |k c=>cases hk;rw[hm c rfl];rfl
   .cases m with
    |k c=>cases hk
    |u e'=>
     cases hk;let ⟨q0,q1,q2⟩:=hz _ rfl;rw[<-q1];refine ⟨q0,?_⟩;have:l*size+(vQ-l)*size=vQ*size:=by rw[<-gz];congr 1;omega
     show off+l*size+(vQ-l)*size<=g.lim id;omega
  .have e1:BE id off l h size m= .sle:=by
    unfold BE;rw[e0,show D' (S6 l) h=U from by rw[ble_eq];simpa using cT]
   rw[e1];have:h-l=0:=by omega
   rw[this];exact .sle
def ab5 {id:Nat} {cap:Cp} {lo hi mx:cC} {z:SV} (h:xe E e id off n cap lo hi mx=V z):
  ∃ie,E.ty.get e=V ie/\lo.getD 0<=hi.getD n/\hi.getD n<=reach cap n/\(∀m,mx=V m->hi.getD n<=m/\m<=reach cap n)/\(∀e',cap= .u e'->e'=e)/\z=BE id off (lo.getD 0) (hi.getD n) ie.size (orC mx cap):=by
 let ⟨ie,pi,h⟩:=ak h;let ⟨hc,h⟩:=bf h;cases h;rw[bI,bI,bI] at hc;refine ⟨ie,pi,(bO _ _).1 hc.2.1,(bO _ _).1 hc.2.2.1,λm hm=> ?_,λe' he=>by subst he;exact (f9 _ _).1 hc.1,rfl⟩
 subst hm;have:=hc.2.2.2;simp only[Qe,bI] at this;exact ⟨(bO _ _).1 this.1,(bO _ _).1 this.2⟩
def ane (hE:fU E g) {tm:Tf} (jB:FR g nt tm a.tmps) {x z:SV} (hv:VR g v x) {mx:G S'} {l u m:cC} (hl:kF tm lo=V l) (hu:kF tm hi=V u) (hm:kF tm mx=V m) (gH:zx E t x l u m=V z):
  ∃r,(R2 t v (lo.map a.eval) (hi.map a.eval) (mx.map a.eval)).run E.P w= .ok r w/\VR g r z:=by
 let ⟨i,sD,ho⟩:=ak gH;let ⟨hmh,ho⟩:=bf ho;have h4:m≠A->u≠A:=by
  intro hm hu;subst hu;cases m with
  |none=>exact hm rfl
  |some k=>simp[aGa] at hmh
 have hd:=(hE.ty t i sD).desc;generalize i.desc=D at hd ho;cases D with
 |string=>
  let ⟨s,hs,ho⟩:=ak (show aA (strOf x) (λs=>aht s l u m)=V z from ho)
  obtain rfl:=sf hs;cases hv;cases m with
  |some _=>cases ho
  |none=>
   let ⟨hc,ho⟩:=bf (show aT (D' (l.getD 0) (u.getD s.size)&&D' (u.getD s.size) s.size) (V (SV.str (s.extract (l.getD 0) (u.getD s.size)))) A=V z from ho);cases ho;rw[bI] at hc;have hmx:mx=A:=by
    rcases BZ jB hm with ⟨rfl,_⟩|⟨_,_,_,_,hx,_⟩
    .rfl
    .simp at hx
   subst hmx;have hb:=sg (P:=E.P) (w:=w) jB hl hu (mx:=A) (m:=A) rfl U s.size s.size ((bO _ _).1 hc.1) ((bO _ _).1 hc.2) (cM _) am
   refine ⟨.string (s.extract (l.getD 0) (u.getD s.size)),?_,.str _⟩;simp only[Pv] at hb;simp only[R2,P',run_underlying (show E.P.underlying t=V .string from hd),V',Instr.slice,Pv,Option.isSome_none,ay,aw,Om,X',hb]
 |slice e=>
  let ⟨ie0,hie0,ho⟩:=ak (show aA (E.ty.get e) (λ_=>Fc x E e l u m)=V z from ho)
  cases hv with
  | @sl id off n b o c cap hρ hn jL wH=>
   obtain ⟨ie,pi,c1,c2,c3,c4,rfl⟩:=ab5 (show xe E e id off n cap l u m=V z from ho);have Jv:reach cap n<=c:=by
    cases cap with
    |u e'=>exact hn
    |k m=>rw[jL m rfl];exact cM _
   have hb:=sg (P:=E.P) (w:=w) jB hl hu hm I n c c1 (by
    cases m with
    |none=>simp;omega
    |some k=>exact (c3 k rfl).1) (by
    cases m with
    |none=>simp
    |some k=>simp;have:=(c3 k rfl).2;omega) h4
   refine ⟨_,?_,apO (vQ:=m.getD c) hρ c1 (by
    cases m with
    |none=>simp;omega
    |some k=>exact (c3 k rfl).1) (λk hk=> ?_) (λe' hk=> ?_)⟩
   .simp only[R2,P',run_underlying (show E.P.underlying t=V (.slice e) from hd),V',Instr.slice,hb,qa (hE.ty _ ie pi),X'];congr 2;split<;>rfl
   .cases m with
    |some k'=>cases hk;rfl
    |none=>exact jL k hk
   .cases m with
    |some k'=>cases hk
    |none=>
     have hk:cap= .u e':=hk;let ⟨l1,l2⟩:=wH e' hk;have he:=c4 e' hk;subst he;have oG:=hE.size pi;exact ⟨l1,oG.symm,by rw[<-oG];exact l2⟩
  | @sle ad c=>
   let ⟨hc,ho⟩:=bf (show aT (pJ l&&(pJ u&&m.isNone)) (V SV.sle) A=V z from ho);cases ho;rw[bI,bI] at hc;have z1:=Ce hc.1;have z2:=Ce hc.2.1;have hm0:m=A:=by cases m with|none=>rfl|some k=>simp at hc
   subst hm0;have hb:=sg (P:=E.P) (w:=w) jB hl hu hm I 0 c (by rw[z1];omega) (by rw[z2];simp) (cM _) h4
   rw[z1,z2] at hb;refine ⟨.slice (if c=0 then ad else ad.map (·.add (0*ie0.size))) (0-0) (c-0),?_,.sle⟩
   simp only[R2,P',run_underlying (show E.P.underlying t=V (.slice e) from hd),V',Instr.slice,hb,qa (hE.ty _ ie0 hie0),X',IK]
  |bY=>
   let ⟨hc,ho⟩:=bf (show aT (pJ l&&(pJ u&&pJ m)) (V SV.bY) A=V z from ho);cases ho;rw[bI,bI] at hc;have z1:=Ce hc.1;have z2:=Ce hc.2.1;have z3:=Ce hc.2.2;have hb:=sg (P:=E.P) (w:=w) jB hl hu hm I 0 0 (by rw[z1];omega) (by rw[z2];omega) (by rw[z3];omega) h4
   rw[z1,z2,z3] at hb;refine ⟨.slice A 0 0,?_,.bY⟩;simp only[R2,P',run_underlying (show E.P.underlying t=V (.slice e) from hd),V',Instr.slice,hb,qa (hE.ty _ ie0 hie0),X'];simp
  |_=>cases ho
 |array n e=>
  let ⟨q,hq,ho⟩:=ak (show aA (yf x) (λq=>xe E e q.1 q.2 n (.k n) l u m)=V z from ho)
  obtain rfl:=so hq;obtain ⟨ie,pi,c1,c2,c3,c4,rfl⟩:=ab5 ho;have c2:u.getD n<=n:=c2;have c3:∀k,m=V k->u.getD n<=k/\k<=n:=c3;cases hv with
  | @ptr _ _ b o hρ=>
   have hb:=sg (P:=E.P) (w:=w) jB hl hu hm U n n c1 (by
    cases m with
    |none=>simpa using c2
    |some k=>exact (c3 k rfl).1) (by
    cases m with
    |none=>simp
    |some k=>simpa using (c3 k rfl).2) h4
   refine ⟨_,?_,apO (vQ:=m.getD n) hρ c1 (by
    cases m with
    |none=>simpa using c2
    |some k=>exact (c3 k rfl).1) (λk hk=> ?_) (λe' hk=>by cases m<;>cases hk)⟩
   .simp only[R2,P',run_underlying (show E.P.underlying t=V (.array n e) from hd),V',Pk,X',hb,qa (hE.ty _ ie pi)]
   .cases m with
    |some k'=>cases hk;rfl
    |none=>cases hk;rfl
 |_=>cases ho
end
section
variable {E:Env} {g:Gh} {f:Hf} {w:World}
variable {P:Y'} {u2:O'}
def Ai {id:Nat} {old:bj} (h:lx f id off n=V old):∃x e cs,f id=V x/\jD (V x) off n=V (e,cs)/\off+n<=O cs/\old=(cs.drop off).take n:=by
 let ⟨p,hp,h⟩:=ak h;let ⟨hc,h⟩:=bf h;cases h;cases hf:f id with
 |none=>rw[hf] at hp;cases hp
 |some x=>exact ⟨x,p.1,p.2,rfl,by rw[<-hf];exact hp,(bO _ _).1 hc,rfl⟩
def abC (s:xN):iR g (byteCells s) (JG s):=by
 unfold byteCells JG;generalize s.data.toList=l;induction l with
 |nil=>exact .nil
 |cons b l ih=>exact .cons rfl (.int _ _ (by simp[SI.ev])) ih
def aCe {size:Nat} (hk:(∃e',P.underlying tx=V (.slice e'))\/P.underlying tx=V .string) (h:HR g f w) {x:SV} (hu:VR g u x) {q:Nat×bj} (hs:pP f size x=V q):
  ∃lu,Src P size tx u q.1 lu w/\iR g lu q.2:=by
 have row:Ct f size x=V q->∃lu,Src P size tx u q.1 lu w/\iR g lu q.2:=by
  intro hs;let ⟨n,xs,h1,h2,h3⟩:=bV hs;cases h3;rcases G1 h1 with ⟨id,off,c,rfl⟩|⟨rfl,rfl⟩|⟨rfl,rfl⟩
  .cases hu with
   | @sl _ _ _ b o c' _ hρ hn jL wH=>
    obtain ⟨x0,e,cs,q1,q1',q2,rfl⟩:=Ai (show lx f id off (n*size)=V xs from h2);let ⟨vs,v1,v2,v3⟩:=OR.gN (h.at q1 hρ).2 q1' q2;have vX:∀(j:Nat) (v:O'),vs[j]? =V v->w.cell? ((⟨b,o+off,A⟩:Addr).add j)=V v:=λj v hv=>by rw[add_lit];exact v3 j v hv
    exact ⟨vs,⟨hk,λ_=>rfl,run_firstCells_some w size n _ n c' vs v1 vX,run_firstCells_some w.drew size n _ n c' vs v1 (by simpa using vX),v1,v2.one⟩,v2⟩
  .cases hu;cases h2;exact ⟨[],⟨hk,λ_=>rfl,run_firstCells_none w size 0 0 0,run_firstCells_none w.drew size 0 0 0,am,λ_ h=>by cases h⟩,.nil⟩
  .cases hu with
   | @sle ad c=>
    cases h2;refine ⟨[],⟨hk,λ_=>rfl,?_,?_,am,λ_ h=>by cases h⟩,.nil⟩<;>
     (cases ad with
      |none=>exact run_firstCells_none _ size 0 0 c
      |some a=>exact run_firstCells_some _ size 0 a 0 c [] am am)
 cases hu with
 |str s=>
  let ⟨h1,h2⟩:=bf (show aT (Cz size 1) (V (s.size,JG s)) A=V q from hs);cases h2;have:=(f9 _ _).1 h1;subst this;refine ⟨byteCells s,⟨hk,λ_=>rfl,firstCells_string s w,firstCells_string s w.drew,by rw[byteCells_length,IC],λu hu=>by
   obtain ⟨_,_,rfl⟩:=dL.1 hu;rfl⟩,abC s⟩
 |_=>exact row hs
def Hd (hE:fU E g) (h:HR g f w) (hn:g.ρ new=A) {ie:TI} (ht:E.P.underlying t=V (.slice e)) (pi:E.ty.get e=V ie) (qH:nv ie=I) {m:Nat} {olds lu:gn} {old xs:bj} (ho:iR g olds old) (Jr:O olds=n*ie.size) (hold:(Nz ie.size n (.slice base n c)).run E.P w.drew= .ok olds.toArray w.drew) (hs:Src E.P ie.size tx u m lu w) (hx:iR g lu xs) (hgr:c<n+m) (h1:n<=1000000) (h2:m<=1000000):
  ∃r w' g',(MV #[t,tx] ty #[.slice base n c,u]).run E.P w= .ok r w'/\hZ g f w (.sl new 0 (n+m) (.u e)) [(new,V (.cells e (old++xs)))] new r g' w':=by
 have hT:=hE.ty e ie pi;let ⟨it,z,q1,q2,_,_,q5,_⟩:=hT.info;let ⟨_,_,z3,z4,z5⟩:=GJ (g:=g) hT q1 q5 qH 0;have rU:=run_append_grow_src (P:=E.P) w t tx ty e it z ht q1 q5 base n c olds (by rw[q2];exact hold) u m lu (by rw[q2];exact hs) hgr W (growslice_fits hgr (by
  have:(n+m)*it.bytes<=2000000*65536:=Nat.mul_le_mul W z4
  omega))
 have hge:=grownCap_ge w (n+m) c e;have hnl:=hs.newsLen;refine ⟨_,_,_,rU,h.row hn (w0:=w.drew) (l:=grownCap w (n+m) c e*ie.size) ⟨rfl,rfl,rfl,rfl⟩ rfl (ho.append hx) (λj v hv=> ?_) ?_ ?_⟩
 .rw[M5,M4]
  .exact hv
  .simpa using (bk.1 hv).1
 .simp only[Array.size_append,List.size_toArray,gS,size_zeroCells,z5,Jr,hnl];rw[<-gz,<-gz];exact jv _ W
 .exact .sl (id:=new) (off:=0) (o:=0) (b:=w.heap.size) (cap:=.u e) (Gh.kG _ _ _ _ _) hge (λk hk=>by cases hk) (λe' he=>by
   cases he;refine ⟨Gh.EM _ _ _ _ _,?_⟩;rw[Gh.BI];show 0+grownCap w (n+m) c e*g.sz e<=_;rw[hE.size pi];omega)
def akN (ht:P.underlying t=V (.slice e)) (hi:P.info? e=V it) (wG:n<=c) (hs:Src P it.size tx u 0 [] w):
  (MV #[t,tx] ty #[.slice base n c,u]).run P w= .ok (.slice base n c) w:=by
 have hc:=hs.cells;rcases hs.kind with ⟨e',hk⟩|hk<;>cases base<;>simp[MV,run_underlying ht,run_underlying hk,sizeOf,typeInfo,hi,hs.len,wG,hc,storeCells]
def ad2 (ht:P.underlying t=V (.slice e)) (hi:P.info? e=V it) {b m:Nat} {lu:gn} (hs:Src P it.size tx u m lu w) (oM:n+m<=c) (dV:(storeCells ⟨b,o+n*it.size,A⟩ lu 0).run P w= .ok () w'):
  (MV #[t,tx] ty #[.slice (V ⟨b,o,A⟩) n c,u]).run P w= .ok (.slice (V ⟨b,o,A⟩) (n+m) c) w':=by
 rcases hs.kind with ⟨e',hk⟩|hk<;>simp[MV,run_underlying ht,run_underlying hk,sizeOf,typeInfo,hi,hs.len,oM,hs.cells,add_lit,dV]
def aKp (hE:fU E g) {ix:TI} (CO:E.ty.get tx=V ix) (hr:Bn ix.desc=I):(∃e',E.P.underlying tx=V (.slice e'))\/E.P.underlying tx=V .string:=by
 have hd:=(hE.ty tx ix CO).desc;generalize ix.desc=D at hd hr;cases D<;>simp[Bn] at hr
 .exact .inr hd
 .exact .inl ⟨_,hd⟩
def aAf {x:SV} (h:NT x=I):(∃i o n c,x= .sl i o n c)\/x= .bY\/x= .sle:=by
 cases x<;>first|exact .inl ⟨_,_,_,_,rfl⟩|exact .inr (.inl rfl)|exact .inr (.inr rfl)|cases h
def hZ.kill (h:HR g f w) {id:Nat} {v:SV} {us:ia} {g':Gh} (hp:hZ g (jG f (id,A)) w v us new r g' w'):hZ g f w v ((id,A)::us) new r g' w':=
 ⟨hp.val,hp.hr,(h.kill id).2.trans hp.fr,hp.ro,λFE=>by cases FE⟩
def ajL (hE:fU E g) (h:HR g f w) (hn:g.ρ new=A) {ix:TI} {s x:SV} (h1:VR g u1 s) (h2:VR g u2 x) (CO:E.ty.get tx=V ix) (N1:Bn ix.desc=I) {v:SV} {us:ia} (gH:nD E f new t s x=V (v,us)):∃r w' g',(MV #[t,tx] ty #[u1,u2]).run E.P w= .ok r w'/\hZ g f w v us new r g' w':=by
 let ⟨i,hi,ho⟩:=ak gH;let ⟨e,he,ho⟩:=ak ho;let ⟨ie,pi,ho⟩:=ak (show aA (E.ty.get e) _=V (v,us) from ho);let ⟨qH,ho⟩:=bf ho;let ⟨q,hq,ho⟩:=ak ho;let ⟨hq1,ho⟩:=bf ho;have hq1:q.1<=1000000:=(bO _ _).1 hq1;have ht:=(hE.ty t i hi).desc;rw[sP he] at ht;have ht:E.P.underlying t=V (.slice e):=ht;have hT:=hE.ty e ie pi;let ⟨it,z,q1,q2,_,_,q5,_⟩:=hT.info;let ⟨_,_,z3,z4,z5⟩:=GJ (g:=g) hT q1 q5 qH 0;let ⟨lu,hs,hx⟩:=aCe (aKp hE CO N1) h h2 hq;rw[cx] at ho;split at ho
 .rename_i h0;have h0:=(f9 _ _).1 h0;let ⟨AP,ho⟩:=bf ho;cases ho;have hnl:=hs.newsLen;rw[h0] at hs hnl;have:lu= []:=wZ (by simpa using hnl)
  subst this;rw[<-q2] at hs;rcases aAf AP with ⟨id,off,n,cp,rfl⟩|rfl|rfl
  .cases h1 with
   |sl hρ wG jL wH=>exact ⟨_,w,g,akN ht q1 wG hs,hZ.same h (.sl hρ wG jL wH)⟩
  .cases h1;exact ⟨_,w,g,akN ht q1 (cM _) hs,hZ.same h .bY⟩
  .cases h1;exact ⟨_,w,g,akN ht q1 (rY _) hs,hZ.same h .sle⟩
 .rename_i h0;have h0:q.1≠0:=λe=>h0 ((f9 _ _).2 e)
  cases h1 with
  |bY=>
   cases (show V (SV.sl new 0 q.1 (.u e),[(new,V (SO.cells e q.2))])=V (v,us) from ho);have:=Hd hE h hn (ty:=ty) (n:=0) (c:=0) (base:=A) (olds:= []) (old:= []) ht pi qH .nil am (run_firstCells_none _ _ _ _ _) hs hx W W hq1
   simpa using this
  | @sl id off n b o c cap hρ wG jL wH=>
   let ⟨AS,ho⟩:=bf (show aT (D' n 1000000) (aT (adF n q.1 cap) (aA (lx f id off (N' n ie.size)) λold=>D1 new e (E' n q.1) (old++q.2) []) (cq (ny (f id)) (lx f id off (N' n ie.size)) λp old=>adU new e ie.size id off n cap q.1 q.2 p old)) A=V (v,us) from ho)
   have AS:n<=1000000:=(bO _ _).1 AS;rw[cx] at ho;split at ho
   .rename_i Oa;let ⟨old,hold,ho2⟩:=ak ho;obtain ⟨x0,e',cs',r1,r1',r2,rfl⟩:=Ai hold;have Jq:=(h.at r1 hρ).2;let ⟨vs,v1,v2,v3⟩:=OR.gN Jq r1' r2;have Vb:(Nz ie.size n (.slice (V ⟨b,o+off,A⟩) n c)).run E.P w.drew= .ok vs.toArray w.drew:=
     run_firstCells_some w.drew ie.size n _ n c vs v1 (λj v hv=>by rw[add_lit];simpa using v3 j v hv)
    cases cap with
    |u e0=>cases Oa
    |k c0=>
     have MU:=jL c0 rfl;subst MU;have hgr:c<n+q.1:=(bO _ _).1 Oa;cases ho2;exact Hd hE h hn ht pi qH v2 v1 Vb hs hx hgr AS hq1
   .let ⟨p,old,hp,hold,ho⟩:=bV ho;have hf:=sY hp;obtain ⟨x0,e',cs',r1,r1',r2,rfl⟩:=Ai hold;rw[hf] at r1;cases r1;cases r1';have pY:Cells g w id b o p.1 p.2:=(h.at hf hρ).2;let ⟨vs,v1,v2,v3⟩:=pY.gN off (n*ie.size) r2;have Vb:(Nz ie.size n (.slice (V ⟨b,o+off,A⟩) n c)).run E.P w.drew= .ok vs.toArray w.drew:=
     run_firstCells_some w.drew ie.size n _ n c vs v1 (λj v hv=>by rw[add_lit];simpa using v3 j v hv)
    have grow:c<n+q.1->∃r w' g',(MV #[t,tx] ty #[.slice (V ⟨b,o+off,A⟩) n c,u2]).run E.P w= .ok r w'/\hZ g f w (.sl new 0 (n+q.1) (.u e)) [(new,V (.cells e ((p.2.drop off).take (n*ie.size)++q.2)))] new r g' w':=
     λhgr=>Hd hE h hn ht pi qH v2 v1 Vb hs hx hgr AS hq1
    have hxl:O q.2=q.1*ie.size:=by rw[<-hx.length];exact hs.newsLen
    cases cap with
    |k c0=>
     have MU:=jL c0 rfl;subst MU;have ho:aT (D' (E' n q.1) c)
      (aT (D' (E' off (N' (E' n q.1) ie.size)) (O p.2)) (V (SV.sl id off (E' n q.1) (.k c),[(id,V (SO.cells p.1 (eX p.2 (E' off (N' n ie.size)) q.2)))])) A)
      (D1 new e (E' n q.1) ((p.2.drop off).take (n*ie.size)++q.2) [])=V (v,us):=ho
     rw[cx] at ho;split at ho
     .rename_i lm;have lm:n+q.1<=c:=(bO _ _).1 lm;let ⟨Oc,ho⟩:=bf ho;have Oc:off+(n+q.1)*ie.size<=O p.2:=(bO _ _).1 Oc;cases ho;let ⟨w',s1,s2,s3,s4,s5,s6,s7⟩:=pY.store (P:=E.P) (off:=off+n*ie.size) hx (by rw[hxl];rw[gz] at Oc;omega)
      let ⟨t1,t2⟩:=h.write (o':=.cells p.1 (eX p.2 (off+n*ie.size) q.2)) hf hρ s3 s4 s2 s5 s6 s7;refine ⟨_,w',g,ad2 ht q1 (by rw[q2];exact hs) lm (by rw[q2,il];exact s1),⟨?_,t1,t2,λ_ _=>rfl,λ_=>rfl⟩⟩
      exact .sl hρ lm jL (λe he=>by cases he)
     .rename_i lm;have lm:¬n+q.1<=c:=λe=>lm ((bO _ _).2 e)
      cases ho;exact grow W
    |u e0=>
     let ⟨l1,l2⟩:=wH e0 rfl;let ⟨hc,ho⟩:=bf (show aT (D' (E' off (N' n ie.size)) (O p.2)&&Cz e p.1) (D1 new e (E' n q.1) ((p.2.drop off).take (n*ie.size)++q.2) [(id,A)]) A=V (v,us) from ho);cases ho;rw[bI] at hc;have rl:off+n*ie.size<=O p.2:=(bO _ _).1 hc.1;have CQ:e=p.1:=(f9 _ _).1 hc.2;have he0:e0=e:=by rw[<-l1,pY.et,CQ]
     subst he0;rw[hE.size pi] at l2;by_cases lm:n+q.1<=c
     .let ⟨⟨kw,m1,m0,vs0,m2,m3⟩,m4⟩:=pY;have oM:o+(off+n*ie.size)+O lu<=kw.size:=by
       have:=jv ie.size lm;rw[hs.newsLen];rw[gz] at this;omega
      have rU:=run_storeCells_at E.P b (o+(off+n*ie.size)) p.1 lu 0 kw w m1 W hs.one
      simp only[po] at rU;have Jr:=v1;have Jq:OR (g.bind new (b,o+off) (g.lim id-off) e0) (w.setRow b (kw.toList.take (o+(off+n*ie.size))++lu++kw.toList.drop (o+(off+n*ie.size)+O lu)).toArray) new b (o+off) (.cells e0 ((p.2.drop off).take (n*ie.size)++q.2)):=by
       refine ⟨⟨(kw.toList.take (o+(off+n*ie.size))++lu++kw.toList.drop (o+(off+n*ie.size)+O lu)).toArray,?_,?_,vs++lu,(v2.append hx).mono (Gh.Jn hn),λj v hv=> ?_⟩,Gh.EM _ _ _ _ _⟩
       .rw[CQ];exact setRow_heap w b kw _ p.1 _ m1
       .rw[Gh.BI];simp;omega
       .rw[M4,DV ap]
        by_cases hj:j<n*ie.size
        .rw[nc W] at hv
         rw[au W]
         have:=v3 j v hv;rw[wN m1] at this;simpa using this
        .have gI:j<O vs+O lu:=by have:=(bk.1 hv).1;simpa using this
         rw[nW W] at hv
         rw[ax W,<-hv]
         congr 1;omega
      let ⟨t1,t2⟩:=h.rename (o':=.cells e0 ((p.2.drop off).take (n*ie.size)++q.2)) hn hf hρ am (λk hk=>setRow_other w b k _ hk) Jq rfl rfl rfl
      refine ⟨_,_,_,ad2 ht q1 (by rw[q2];exact hs) lm (by rw[q2,il];exact rU),⟨?_,t1,t2,λk hk=>Gh.nC _ _ _ _ hk,λFE=>by cases FE⟩⟩
      exact .sl (id:=new) (off:=0) (o:=o+off) (b:=b) (cap:=.u e0) (Gh.kG _ _ _ _ _) lm (λk hk=>by cases hk) (λe' he=>by
       cases he;refine ⟨Gh.EM _ _ _ _ _,?_⟩;rw[Gh.BI];show 0+c*g.sz e0<=_;rw[hE.size pi];omega)
     .let ⟨k1,_⟩:=h.kill id;let ⟨r,w',g',a1,a2⟩:=Hd hE k1 hn (ty:=ty) ht pi qH v2 v1 Vb hs hx W AS hq1
      exact ⟨r,w',g',a1,a2.kill h⟩
  |_=>cases ho
end
end Go.bM
namespace Go.bM
open Go.RowKit Go.MapKept
variable {P:Y'} {u u1 u2:O'} {n new nt:Nat} {t ty:Ey} {ts:List Ey} {k:UQ} {DG mx:Bool} {Y:Type} {a:Act}
section
variable {E:Env} {g:Gh} {f:Hf} {w:World}
variable {u3:O'}
def axF {size:Nat} (h:HR g f w) {x:SV} (hu:VR g u x) {q:Nat×bj} (hs:pP f size x=V q) (hn:n<=q.1):
  (Builtin.lenOf u).run P w= .ok q.1 w/\∃lu,(Nz size n u).run P w= .ok lu.toArray w/\iR g lu (q.2.take (n*size))/\O lu=n*size:=by
 have row:Ct f size x=V q->(Builtin.lenOf u).run P w= .ok q.1 w/\∃lu,(Nz size n u).run P w= .ok lu.toArray w/\iR g lu (q.2.take (n*size))/\O lu=n*size:=by
  intro hs;let ⟨m,xs,h1,h2,h3⟩:=bV hs;cases h3;have hn:n<=m:=hn;rcases G1 h1 with ⟨id,off,c,rfl⟩|⟨rfl,rfl⟩|⟨rfl,rfl⟩
  .cases hu with
   | @sl _ _ _ b o c' _ hρ wG jL wH=>
    obtain ⟨x0,e,cs,q1,q1',q2,rfl⟩:=Ai (show lx f id off (m*size)=V xs from h2);have lm:n*size<=m*size:=jv _ hn;let ⟨vs0,v10,v20,v30⟩:=OR.gN (h.at q1 hρ).2 q1' q2;obtain ⟨vs,v1,v2,v3⟩:∃vs:gn,O vs=n*size/\iR g vs ((cs.drop off).take (n*size))/\∀j v,vs[j]? =V v->w.cell? ⟨b,o+off+j,A⟩=V v:=by
     refine ⟨vs0.take (n*size),by rw[dv];omega,?_,λj v hv=> ?_⟩
     .have:=v20.take (n*size);rwa[mC,fG lm] at this
     .rw[eO] at hv;split at hv
      .exact v30 j v hv
      .cases hv
    refine ⟨rfl,vs,run_firstCells_some w size n _ m c' vs v1 (λj v hv=>by rw[add_lit];exact v3 j v hv),?_,v1⟩
    rw[mC,fG lm];exact v2
  .cases hu;cases h2;have:n=0:=by omega
   subst this;exact ⟨rfl,[],run_firstCells_none w size 0 0 0,by simpa using .nil,am⟩
  .cases hu with
   | @sle ad c=>
    cases h2;have:n=0:=by omega
    subst this;refine ⟨rfl,[],?_,by simpa using .nil,am⟩
    cases ad with
    |none=>exact run_firstCells_none _ size 0 0 c
    |some a=>exact run_firstCells_some _ size 0 a 0 c [] am am
 cases hu with
 |str s=>
  let ⟨h1,h2⟩:=bf (show aT (Cz size 1) (V (s.size,JG s)) A=V q from hs);cases h2;have:=(f9 _ _).1 h1;subst this;have hn:n<=s.size:=hn;refine ⟨rfl,(byteCells s).take n,?_,by rw[IC];exact (abC s).take n,by rw[dv,byteCells_length,IC];omega⟩
  simp[Nz,byteCells];apply Cg;simp[uY]
 |_=>exact row hs
def atC (hE:fU E g) (h:HR g f w) {d s:SV} (h1:VR g u1 d) (h2:VR g u2 s) {v:SV} {us:ia} (gH:B8 E f t d s=V (v,us)):∃r w',(ML (t::ts).toArray ty #[u1,u2]).run E.P w= .ok r w'/\hZ g f w v us new r g w':=by
 let ⟨i,hi,ho⟩:=ak gH;let ⟨e,he,ho⟩:=ak ho;let ⟨ie,pi,ho⟩:=ak (show aA (E.ty.get e) _=V (v,us) from ho);let ⟨qH,ho⟩:=bf ho;let ⟨nd,q,DI,hq,ho⟩:=bV ho;have ht:=(hE.ty t i hi).desc;rw[sP he] at ht;have ht:E.P.underlying t=V (.slice e):=ht;have oG:=qa (hE.ty e ie pi);have hmin:aT (D' q.1 nd) q.1 nd=Nat.min q.1 nd:=by
  rw[cx];split
  .rename_i hc;exact (fG ((bO _ _).1 hc)).symm
  .rename_i hc;have:¬q.1<=nd:=λe=>hc ((bO _ _).2 e)
   exact (asM W).symm
 have lm:Nat.min q.1 nd<=q.1:=Nat.min_le_left _ _;have hle2:Nat.min q.1 nd<=nd:=Nat.min_le_right _ _;have ho:F4 d f ie.size (aT (D' q.1 nd) q.1 nd) q.2=V (v,us):=ho;rw[hmin] at ho;generalize hm:Nat.min q.1 nd=m at ho lm hle2;let ⟨hl,lu,hc,hx,hnl⟩:=axF (P:=E.P) h h2 hq lm;have SS:VR g (goInt m) (.int .i64 (.lit (.ofNat m))):=.int _ _ (by simp[SI.ev])
 rcases G1 DI with ⟨id,off,cp,rfl⟩|⟨rfl,rfl⟩|⟨rfl,rfl⟩
 .cases h1 with
  | @sl _ _ _ b o c' _ hρ wG jL wH=>
   let ⟨p,hp,ho⟩:=ak (show aA (ny (f id)) (λp=>aT (D' (E' off (N' m ie.size)) (O p.2)) (V (SV.int .i64 (.lit (.ofNat m)),[(id,V (SO.cells p.1 (eX p.2 off (q.2.take (N' m ie.size)))))])) A)=V (v,us) from ho)
   let ⟨Oc,ho⟩:=bf ho;cases ho;have Oc:off+m*ie.size<=O p.2:=(bO _ _).1 Oc;have hf:=sY hp;have pY:Cells g w id b o p.1 p.2:=(h.at hf hρ).2;let ⟨w',s1,s2,s3,s4,s5,s6,s7⟩:=pY.store (P:=E.P) (off:=off) hx (by rw[<-hx.length,hnl];exact Oc)
   let ⟨t1,t2⟩:=h.write (o':=.cells p.1 (eX p.2 off (q.2.take (m*ie.size)))) hf hρ s3 s4 s2 s5 s6 s7;refine ⟨_,w',?_,⟨SS,t1,t2,λ_ _=>rfl,λ_=>rfl⟩⟩
   simp[ML,run_underlying ht,hl,oG,hm,hc,s1]
 .cases h1;have:m=0:=by omega
  subst this;cases (show V (SV.int .i64 (.lit (.ofNat 0)),([]:ia))=V (v,us) from ho);refine ⟨_,w,?_,hZ.same h SS⟩;simp[ML,run_underlying ht,hl,oG,hm,hc]
 .cases h1 with
  | @sle ad c=>
   have:m=0:=by omega
   subst this;cases (show V (SV.int .i64 (.lit (.ofNat 0)),([]:ia))=V (v,us) from ho);have hn0:lu= []:=wZ (by simpa using hnl)
   subst hn0;refine ⟨_,w,?_,hZ.same h SS⟩;cases ad<;>simp[ML,run_underlying ht,hl,oG,hm,hc,storeCells]
def kW.get:∀{ms:List Hs} {xs:iU},kW g ms xs->∀{j:Nat} {x:SV×SV×Nat},xs[j]? =V x->∃m,ms[j]? =V m/\Sp g m x
 |_,_,.nil,_,_,h=>by simp at h
 |_,_,.cons hd ht,j,x,h=>by
  cases j with
  |zero=>simp at h;subst h;exact ⟨_,rfl,hd⟩
  |succ j=>simp at h;let ⟨m,a,b⟩:=ht.get h;exact ⟨m,by simpa using a,b⟩
def kW.length:∀{ms:List Hs} {xs:iU},kW g ms xs->O ms=O xs
 |_,_,.nil=>rfl
 |_,_,.cons _ ht=>by simp[ht.length]
def kW.append:∀{ms ns:List Hs} {xs ys:iU},kW g ms xs->kW g ns ys->kW g (ms++ns) (xs++ys)
 |_,_,_,_,.nil,k=>k
 |_,_,_,_,.cons hd ht,k=>.cons hd (ht.append k)
def kW.set:∀{ms:List Hs} {xs:iU},kW g ms xs->∀{m:Hs} {x:SV×SV×Nat},Sp g m x->∀(j:Nat),kW g (ms.set j m) (xs.set j x)
 |_,_,.nil,_,_,_,j=>by simpa using .nil
 |_,_,.cons hd ht,_,_,h,0=>by simpa using .cons h ht
 |_,_,.cons hd ht,_,_,h,j+1=>by simpa using .cons hd (ht.set h j)
def abl {k:SV} {D:UD} (hl:NN k D=I) (hd:GC P t D) (hu:VR g u k):∃d,P.underlying t=V d/\IsKey d u/\
  (∀(y:SV) (b:Bool) (u':O'),sameKey k y=V b->VR g u' y->Instr.sameNow d u u'=V b/\(b=I->u'=u)):=by
 cases hu with
 |bool a=>
  obtain rfl:=aiD (show Qm D=I from hl);refine ⟨.bool,hd,trivial,λy b u' hs vk=> ?_⟩
  let ⟨p,q,h1,h2,h3⟩:=bV (show cq (vr (.bool a)) (vr y) (λa b=>V (a==b))=V b from hs)
  cases h1;obtain rfl:=B9 h2;cases vk;cases h3;exact ⟨rfl,λe=>by
   have:a=q:=by simpa using e
   rw[this]⟩
 | @int k e n he=>
  have hl:(isLit e&&Ya k D)=I:=hl;rw[bI] at hl;let ⟨hl1,z6⟩:=hl;obtain rfl:D= .int k:=by
   cases D with
   |int k'=>rw[pB z6]
   |_=>cases z6
  cases e with
  |lit n0=>
   subst he;refine ⟨.int k,hd,rfl,λy b u' hs vk=> ?_⟩
   let ⟨p,h1,h2⟩:=ak (show aA (intOf y) (λp=>aT (iV k p.1) (aFw (.lit n) p.2) A)=V b from hs)
   let ⟨hk,h3⟩:=bf h2;have hk:=pB hk;obtain rfl:=uH h1;let ⟨pk,pe⟩:=p;simp only at hk h3 vk;subst hk;cases pe with
   |lit m=>
    cases vk with
    | @int _ _ m' e2=>
     subst e2;cases h3;rw[EJ];refine ⟨?_,λe=> ?_⟩
     .simp only[Instr.sameNow,az,SI.ev];congr 1
     .have:n=m':=by simpa using e
      rw[this]
 |str s=>
  obtain rfl:=anz (show Jo D=I from hl);refine ⟨.string,hd,trivial,λy b u' hs vk=> ?_⟩
  let ⟨p,q,h1,h2,h3⟩:=bV (show cq (strOf (.str s)) (strOf y) (λa b=>V (HU a b))=V b from hs)
  cases h1;obtain rfl:=sf h2;cases vk;cases h3;rw[yY];refine ⟨?_,λe=> ?_⟩
  .simp only[Instr.sameNow];congr 1;rw[oS,bytes_beq];simp
  .have:s=q:=by simpa using e
   rw[this]
 |_=>cases hl
def akK {k:SV} {u:O'} {d:TypeDesc} (hk:∀(y:SV) (b:Bool) (u':O'),sameKey k y=V b->VR g u' y->Instr.sameNow d u u'=V b/\(b=I->u'=u)):
  ∀{ms:List Hs} {es:iU},kW g ms es->∀(i:Nat) (r:G (Nat×SV×Nat)),sE k es i=V r->
   (r=A/\Instr.findNow d u ms i=V A)\/∃j x m,r=V (i+j,x.2.1,x.2.2)/\es[j]? =V x/\ms[j]? =V m/\m.key=u/\Instr.findNow d u ms i=V (V (i+j,m.val))
 |_,_,.nil,i,r,h=>by cases h;exact .inl ⟨rfl,rfl⟩
 |_,_,.cons (m:=m) (x:=x) (ms:=ms) (xs:=es) hd ht,i,r,h=>by
  unfold sE at h;cases hs:sameKey k x.1 with
  |none=>rw[hs] at h;cases h
  |some b=>
   rw[hs] at h;let ⟨h1,h2⟩:=hk x.1 b m.key hs hd.1;cases b with
   |true=>
    cases h;exact .inr ⟨0,x,m,rfl,rfl,rfl,h2 rfl,by simp[Instr.findNow,h1]⟩
   |false=>
    rcases akK hk ht (i+1) r h with ⟨q1,q2⟩|⟨j,y,m',q1,q2,q3,q4,q5⟩
    .exact .inl ⟨q1,by simp[Instr.findNow,h1,q2]⟩
    .refine .inr ⟨j+1,y,m',by rw[q1];congr 2;omega,by simpa using q2,by simpa using q3,q4,?_⟩
     simp[Instr.findNow,h1,q5];omega
def ais (hE:fU E g) (h:HR g f w) {x k z:SV} (h1:VR g u1 x) (h2:VR g u2 k) {ok:Bool} (gH:xl E f t x k ok=V z):
  ∃r,(Instr.lookup t u1 u2 ok).run E.P w= .ok r w/\VR g r z:=by
 let ⟨i,hi,ho⟩:=ak gH;let ⟨q,hq,ho⟩:=ak ho;let ⟨ik,ie,hik,pi,ho⟩:=bV ho;let ⟨hl,ho⟩:=bf ho;let ⟨es,hes,ho⟩:=ak ho;let ⟨r,hr,ho⟩:=ak ho;have ht:=(hE.ty t i hi).desc;rw[ajc hq] at ht;have ht:E.P.underlying t=V (.map q.1 q.2):=ht;let ⟨d,hd,Aa,asJ⟩:=abl hl (hE.ty _ ik hik).desc h2;let ⟨zv,z1,z2,z3⟩:=awF (hE.ty _ ie pi);have main:∀(ms:Array Hs),kW g ms.toList es->(Instr.checkKey ms.isEmpty 10000 q.1 u2).run E.P w= .ok () w/\∃a rv,(Instr.findKey q.1 u2 ms.toList).run E.P w= .ok a w/\VR g rv z/\
   ((a=A/\rv=if ok then Value.tuple #[zv,.bool U] else zv)\/∃j v,a=V (j,v)/\rv=if ok then Value.tuple #[v,.bool I] else v):=by
  intro ms hms;refine ⟨run_checkKey (P:=E.P) (w:=w) hd Aa ms.isEmpty 9999,?_⟩;rcases akK asJ hms 0 r hr with ⟨rfl,q2⟩|⟨j,y,m,rfl,q2,q3,q4,q5⟩
  .let ⟨zz,hz,ho⟩:=ak (show aA (jr ie ie.zero 0) (λz=>V (MP ok z U))=V z from ho)
   cases ho;refine ⟨A,_,run_findKey (P:=E.P) (w:=w) hd q2,?_,.inl ⟨rfl,rfl⟩⟩;have:=aak (g:=g) z2 z3 hz;cases ok
   .exact this
   .exact .dh (.cons this (.cons (.bool U) .nil))
  .let ⟨m',r1,r2⟩:=hms.get q2;rw[q3] at r1;obtain rfl:m=m':=by simpa using r1
   cases (show V (MP ok y.2.1 I)=V z from ho);refine ⟨_,_,run_findKey (P:=E.P) (w:=w) hd q5,?_,.inr ⟨_,_,rfl,rfl⟩⟩;cases ok
   .exact r2.2.1
   .exact .dh (.cons r2.2.1 (.cons (.bool I) .nil))
 cases h1 with
 |qA=>
  cases (show V ([]:iU)=V es from hes);let ⟨Hb,a,rv,r1,r2,r3⟩:=main #[] .nil;refine ⟨rv,?_,r2⟩;rcases r3 with ⟨rfl,rfl⟩|⟨j,v,rfl,rfl⟩<;>simp only[Instr.lookup,P',run_underlying ht,V',X',Hb,r1,z1]
 | @mp id b o hρ=>
  let ⟨p,hp,hes⟩:=ak (show aA (ln (f id)) (λp=>V p.1)=V es from hes)
  cases hes;have hf:=GY hp;let ⟨ms,m1,m2⟩:=(h.at hf hρ).2;let ⟨Hb,a,rv,r1,r2,r3⟩:=main ms m2;refine ⟨rv,?_,r2⟩;rcases r3 with ⟨rfl,rfl⟩|⟨j,v,rfl,rfl⟩<;>simp only[Instr.lookup,P',run_underlying ht,V',X',Sk m1,Hb,r1,z1]
 |_=>cases hes
def abJ (hE:fU E g) (h:HR g f w) {x k v:SV} (h1:VR g u1 x) (h2:VR g u2 k) (h3:VR g u3 v) {us:ia} (gH:Dc E f t x k v=V us):
  ∃w',(Instr.mapUpdate t u1 u2 u3).run E.P w= .ok () w'/\HR g (iH f us) w'/\Fr g f w g (iH f us) w':=by
 let ⟨id,jA,ho⟩:=ak gH;let ⟨i,hi,ho⟩:=ak ho;let ⟨q,hq,ho⟩:=ak ho;let ⟨ik,p,hik,hp,ho⟩:=bV ho;let ⟨hl,ho⟩:=bf ho;let ⟨r,hr,ho⟩:=ak ho;cases ho;obtain rfl:=abY jA;have ht:=(hE.ty t i hi).desc;rw[ajc hq] at ht;have ht:E.P.underlying t=V (.map q.1 q.2):=ht;let ⟨d,hd,Aa,asJ⟩:=abl hl (hE.ty _ ik hik).desc h2;have hf:=GY hp;cases h1 with
 | @mp _ b o hρ=>
  let ⟨hb,ms,m1,m2⟩:=h.at hf hρ;have Hb:=run_checkKey (P:=E.P) (w:=w) hd Aa U 9999;have fin:∀(GW:Array Hs) (MW:iU) (c':Nat),kW g GW.toList MW->HR g (jG f (id,V (.map MW c'))) {w with heap:=w.heap.setIfInBounds b (.map GW c')}/\Fr g f w g (jG f (id,V (.map MW c'))) {w with heap:=w.heap.setIfInBounds b (.map GW c')}:=by
   intro GW MW c' he;let ⟨s1,s2⟩:=heap_set (o':=Obj.map GW c') m1;exact h.write hf hρ am (λk hk=>s2 k hk) ⟨GW,s1,he⟩ rfl rfl rfl
  rcases akK asJ m2 0 r hr with ⟨rfl,q2⟩|⟨j,y,m,rfl,q2,q3,q4,q5⟩
  .have hfk:=run_findKey (P:=E.P) (w:=w) hd q2;refine ⟨_,?_,fin (ms.push {key:=u2,val:=u3,born:=p.2}) (p.1++ [(k,v,p.2)]) (p.2+1) (by rw[Array.toList_push];exact m2.append (.cons ⟨h2,h3,rfl⟩ .nil))⟩
   simp only[Instr.mapUpdate,P',run_underlying ht,V',Sk m1,Hb,hfk];exact run_setObj_map _ m1
  .have hfk:=run_findKey (P:=E.P) (w:=w) hd q5;let ⟨m',r1,r2⟩:=m2.get q2;rw[q3] at r1;obtain rfl:m=m':=by simpa using r1
   rw[cN] at hfk;have hmj:ms[j]? =V m:=by simpa using q3
   have hold:(((ms[j]?).map (·.key)).getD u2)=u2:=by rw[hmj];simpa using q4
   have CN:(Instr.keyThatStays u2 u2).run E.P w= .ok u2 w:=by simp[Instr.keyThatStays,sameBits_self Aa]
   refine ⟨_,?_,fin (ms.modify j λe=>{e with key:=u2,val:=u3}) (p.1.set (0+j) (k,v,y.2.2)) p.2 ?_⟩
   .simp only[Instr.mapUpdate,P',run_underlying ht,V',Sk m1,Hb,hfk,hold,CN];exact run_setObj_map _ m1
   .have:(ms.modify j λe=>{e with key:=u2,val:=u3}).toList=ms.toList.set j {m with key:=u2,val:=u3}:=by
     apply pK;intro n;rw[ng,M9,Ep];by_cases hn:j=n
     .subst hn;have cT:j<ms.size:=(pq.1 hmj).1;have nO:ms[j]=m:=(pq.1 hmj).2;simp[cT,nO]
     .simp[hn]
    rw[this,cN];exact m2.set (m:={m with key:=u2,val:=u3}) (x:=(k,v,y.2.2)) ⟨h2,h3,r2.2.2⟩ j
end
section
variable {E:Env} {g:Gh} {f:Hf} {w:World}
variable {xt:Ey}
def aic (hE:fU E g) (h:HR g f w) (hn:g.ρ new=A) {x:SV} (hu:VR g u x) {v:SV} {us:ia} (gH:Bt E f new t x=V (v,us)):
  ∃r w' g',(Instr.range t u).run E.P w= .ok r w'/\hZ g f w v us new r g' w':=by
 let ⟨i,hi,ho⟩:=ak gH;let ⟨o,Js,ho⟩:=ak ho;cases ho;have ht:=(hE.ty t i hi).desc;have fin:∀(ob:Obj),(Instr.range t u).run E.P w= .ok (.pointer (V ⟨w.heap.size,0,A⟩)) (w.alloc ob)->OR (g.bind new (w.heap.size,0) 0 0) (w.alloc ob) new w.heap.size 0 o->
   ∃r w' g',(Instr.range t u).run E.P w= .ok r w'/\hZ g f w (.ptr new 0) [(new,V o)] new r g' w':=by
  intro ob rU Jq;let ⟨r1,r2⟩:=h.alloc hn (o':=o) (w':=w.alloc ob) (l:=0) (e:=0) rfl Jq;exact ⟨.pointer (V ⟨w.heap.size,0,A⟩),_,_,rU,⟨.ptr (o:=0) (off:=0) (Gh.kG _ _ _ _ _),r1,r2,λid dd=>Gh.nC _ _ _ _ dd,λFE=>by cases FE⟩⟩
 generalize i.desc=D at ht Js;cases D with
 |string=>
  have ht:E.P.underlying t=V .string:=ht;let ⟨s,hs,Js⟩:=ak (show aA (strOf x) (λs=>V (SO.qR s 0))=V o from Js)
  cases Js;obtain rfl:=sf hs;cases hu;refine fin (.stringIter s 0) ?_ ⟨rfl,heap_alloc_new w _⟩;simp[Instr.range,run_underlying ht,newObj];rfl
 |map kt et=>
  have ht:E.P.underlying t=V (.map kt et):=ht;cases hu with
  |qA=>
   cases (show V (SO.mapIter A 0 [] 0)=V o from Js);refine fin (.mapIter A 0 #[] 0) ?_ ⟨rfl,A,#[],heap_alloc_new w _,rfl,rfl⟩;simp[Instr.range,run_underlying ht,newObj];rfl
  | @mp id b c hρ=>
   let ⟨p,hp,Js⟩:=ak (show aA (ln (f id)) (λp=>V (SO.mapIter (V id) p.2 [] p.2))=V o from Js)
   cases Js;have hf:=GY hp;let ⟨hb,ms,m1,m2⟩:=h.at hf hρ;have dd:id≠new:=λe=>by subst e;rw[hn] at hρ;cases hρ
   refine fin (.mapIter (V b) p.2 #[] p.2) ?_ ⟨rfl,V b,#[],heap_alloc_new w _,rfl,b,c,rfl,by rw[Gh.nC _ _ _ _ dd];exact hρ⟩
   simp[Instr.range,run_underlying ht,newObj,Sk m1];rfl
  |_=>cases Js
 |_=>cases Js
def ano (hE:fU E g) (h:HR g f w) {x:SV} (hu:VR g u x) {v:SV} {us:ia} (gH:Fq f DG x=V (v,us)):
  ∃r w',(Instr.next u DG ty).run E.P w= .ok r w'/\hZ g f w v us new r g w':=by
 let ⟨hs,Js⟩:=bf gH;subst hs;let ⟨id,jA,ho2⟩:=ak Js;let ⟨p,hp,ho3⟩:=ak ho2;let ⟨q,hq,hid2⟩:=ak jA;let ⟨hz,hid3⟩:=bf hid2;cases hid3;have hz:=(f9 _ _).1 hz;obtain rfl:=so hq;have hf:=asu hp;cases hu with
 | @ptr _ _ b o hρ=>
  obtain ⟨hb,rfl,m1⟩:=h.at hf hρ;rw[hz];have nO:(getObj b).run E.P w= .ok (.stringIter p.1 p.2) w:=by simp[getObj,Sem.run,m1]
  have ho:V (Jj q.1 p)=V (v,us):=ho3;unfold Jj at ho;rw[cx] at ho;split at ho
  .rename_i cT;have cT:p.2<p.1.size:=(bO _ _).1 cT;cases ho;let ⟨s1,s2⟩:=heap_set (o':=Obj.stringIter p.1 (p.2+(Lg p.1 p.2).2)) m1;let ⟨t1,t2⟩:=h.write (o':=.qR p.1 (p.2+(Lg p.1 p.2).2)) (w':={w with heap:=w.heap.setIfInBounds b (.stringIter p.1 (p.2+(Lg p.1 p.2).2))}) hf hρ am (λk hk=>s2 k hk) ⟨rfl,s1⟩ rfl rfl rfl
   refine ⟨.tuple #[.bool I,goInt p.2,.int .i32 (Lg p.1 p.2).1],{w with heap:=w.heap.setIfInBounds b (.stringIter p.1 (p.2+(Lg p.1 p.2).2))},?_,⟨?_,t1,t2,λ_ _=>rfl,λ_=>rfl⟩⟩
   .simp only[po,Instr.next,P',nO,V',ax cT];simp[setObj,Sem.run,m1]
   .exact .dh (.cons (.bool I) (.cons (.int _ _ (by simp[SI.ev])) (.cons (.int _ _ (by simp[SI.ev])) .nil)))
  .rename_i cT;have cT:¬p.2<p.1.size:=λe=>cT ((bO _ _).2 e)
   cases ho;refine ⟨.tuple #[.bool U],w,?_,hZ.same h (.dh (.cons (.bool U) .nil))⟩;simp only[po,Instr.next,P',nO,V',au cT,X']
def asb (hE:fU E g) (h:HR g f w) {x:SV} (hu:VR g u x) {v:SV} {us:ia} (gH:ads E t x=V (v,us)):
  ∃r,(Sj t u).run E.P w= .ok r w/\hZ g f w v us new r g w:=by
 let ⟨i,hi,ho⟩:=ak gH;rw[cx] at ho;split at ho
 .cases ho
 .rename_i hc;cases ho;have hd:=(hE.ty t i hi).desc;refine ⟨.iface t u,?_,hZ.same h (.kN hu)⟩;generalize i.desc=D at hd hc;cases D<;>simp only[GC] at hd
  case interface=>exact absurd rfl hc
  case pointer=>let ⟨e,he⟩:=hd;simp[Sj,run_underlying he]
  case struct=>let ⟨e,he,_⟩:=hd;simp[Sj,run_underlying he]
  case func=>let ⟨_,_,_,he⟩:=hd;simp[Sj,run_underlying he]
  all_goals simp[Sj,run_underlying hd]
def acW (hE:fU E g) (h:HR g f w) {ok:Bool} {x:SV} (hu:VR g u x) {v:SV} {us:ia} (gH:La E t ok x=V (v,us)):
  ∃r,(Instr.typeAssert u xt t ok).run E.P w= .ok r w/\hZ g f w v us new r g w:=by
 let ⟨i,hi,ho⟩:=ak gH;rw[cx] at ho;split at ho
 .cases ho
 .rename_i hc;let ⟨z,hz0,ho⟩:=ak ho;cases ho;have hT:=hE.ty t i hi;let ⟨zv,z1,z2,z3⟩:=awF hT;let ⟨d,hd⟩:=awJ hT;have hni:∀ms,d≠ .interface ms:=by
   intro ms e;subst e;have hD:=hT.desc;generalize i.desc=D at hD hc;cases D<;>simp only[GC] at hD<;>first|exact hc rfl|(rw[hd] at hD;simp at hD;done)|(let ⟨_,he⟩:=hD;rw[hd] at he;simp at he;done)|(let ⟨_,he,_⟩:=hD;rw[hd] at he;simp at he;done)|(let ⟨_,_,_,he⟩:=hD;rw[hd] at he;simp at he;done)
  have fail:LC i ok=V v->∃r,(do if ok then pure (Value.tuple #[<-zeroValue t,.bool U]) else runtimePanic (.typeAssertion (V xt) A t ""):Sem O').run E.P w= .ok r w/\ok=I/\r= .tuple #[zv,.bool U]/\VR g r v:=by
   intro hf;let ⟨hk,hf⟩:=bf hf;let ⟨y,hy,hf⟩:=ak hf;cases hf;subst hk;exact ⟨_,by simp[z1],rfl,rfl,.dh (.cons (aak z2 z3 hy) (.cons (.bool U) .nil))⟩
  cases hu with
  | @kN t2 u2 y hy=>
   have hz:aT (Cz t2 t) (V (MP ok y I)) (LC i ok)=V v:=hz0;rw[cx] at hz;split at hz
   .rename_i he;have he:=(f9 _ _).1 he;subst he;have hz:V (MP ok y I)=V v:=hz;cases hz;refine ⟨if ok then .tuple #[u2,.bool I] else u2,?_,hZ.same h ?_⟩
    .cases d<;>first|exact absurd rfl (hni _)|simp[Instr.typeAssert,run_underlying hd]
    .cases ok
     .exact hy
     .exact .dh (.cons hy (.cons (.bool I) .nil))
   .rename_i he;have he:t2≠t:=λe=>he ((f9 _ _).2 e)
    obtain ⟨r,r1,rfl,rfl,r2⟩:=fail hz;refine ⟨_,?_,hZ.same h r2⟩;cases d<;>first|exact absurd rfl (hni _)|simp[Instr.typeAssert,run_underlying hd,he,z1]
  |re=>
   obtain ⟨r,r1,rfl,rfl,r2⟩:=fail hz0;refine ⟨_,?_,hZ.same h r2⟩;cases d<;>first|exact absurd rfl (hni _)|simp[Instr.typeAssert,run_underlying hd,z1]
  |_=>cases hz0
def ayN (hE:fU E g) (h:HR g f w) {i:TI} (hi:E.ty.get t=V i) {x z:SV} (hu:VR g u x) (gH:Dk i.desc x f=V z):∃r,(OC #[t] ty #[u]).run E.P w= .ok r w/\VR g r z:=by
 have hd:=(hE.ty t i hi).desc;have lit:∀n:Nat,VR g (goInt n) (xC n):=λn=>.int _ _ (by simp[SI.ev])
 generalize i.desc=D at hd gH;cases D with
 |string=>
  let ⟨s,hs,ho⟩:=ak (show aA (strOf x) (λs=>V (xC s.size))=V z from gH)
  cases ho;obtain rfl:=sf hs;cases hu;exact ⟨goInt s.size,by simp[OC,run_underlying (show E.P.underlying t=V .string from hd)],lit _⟩
 |slice e=>
  let ⟨n,hn,ho⟩:=ak (show aA (SF x) (λn=>V (xC n))=V z from gH)
  cases ho;have hd:E.P.underlying t=V (.slice e):=hd;rcases G1 hn with ⟨id,off,c,rfl⟩|⟨rfl,rfl⟩|⟨rfl,rfl⟩<;>cases hu<;>exact ⟨goInt _,by simp[OC,run_underlying hd],lit _⟩
 |array n e=>
  cases (show V (xC n)=V z from gH);have hd:E.P.underlying t=V (.array n e):=hd;exact ⟨goInt n,by simp[OC,run_underlying hd],lit _⟩
 |map k e=>
  have hd:E.P.underlying t=V (.map k e):=hd;cases hu with
  |qA=>
   cases (show V (xC 0)=V z from gH);exact ⟨goInt 0,by simp[OC,run_underlying hd],lit _⟩
  | @mp id b o hρ=>
   let ⟨p,hp,ho⟩:=ak (show aA (ln (f id)) (λp=>V (xC (O p.1)))=V z from gH)
   cases ho;let ⟨hb,ms,m1,m2⟩:=h.at (GY hp) hρ;refine ⟨goInt ms.size,by simp[OC,run_underlying hd,Sk m1],?_⟩
   have:=m2.length;rw[<-this];exact lit _
  |_=>cases gH
 |_=>cases gH
def abZ (hE:fU E g) {x y z:SV} {v:O'} (hu:VR g u x) (hv:VR g v y) (gH:U3 E mx x y=V z) (ts:Array Ey) (ty:Ey):
  ∃r,((if mx then Builtin.max_ ts ty #[u,v] else Builtin.min_ ts ty #[u,v])).run E.P w= .ok r w/\VR g r z:=by
 let ⟨a,b,h1,h2,ho⟩:=bV gH;let ⟨r,hr,ho⟩:=ak ho;cases ho;obtain rfl:=uH h1;obtain rfl:=uH h2;cases hu with|int _ _ e1=>cases hv with|int _ _ e2=>
 subst e1;subst e2;cases mx with
 |true=>
  have:=Bv hE (show GZ E a.2 b.2=V r from hr);refine ⟨.int a.1 (if b.2.ev g.η>a.2.ev g.η then b.2.ev g.η else a.2.ev g.η),by simp[Builtin.max_,Builtin.max2],.int _ _ ?_⟩
  cases r with
  |true=>rw[ax (by simpa using this)]
  |false=>rw[au (by simpa using this)]
 |false=>
  have:=Bv hE (show GZ E b.2 a.2=V r from hr);refine ⟨.int a.1 (if b.2.ev g.η<a.2.ev g.η then b.2.ev g.η else a.2.ev g.η),by simp[Builtin.min_,Builtin.min2],.int _ _ ?_⟩
  cases r with
  |true=>rw[ax (by simpa using this)]
  |false=>rw[au (by simpa using this)]
def wJ {l:List Y} {p:Y×Y} (h:yF l=V p):l= [p.1,p.2]:=by
 unfold yF at h;split at h
 .cases h;rfl
 .cases h
def aRn (P:Y') (o:pw) (a:Act) (w:World) (v:O') (w':World):Prop:=
 (execOp a.eval o).run P w= .ok (.value v) w'\/((execOp a.eval o).run P w= .ok .skip w'/\v=undef)
def NG (h:VR g u (.int k (.lit (.ofNat n)))):u= .int k (.ofNat n):=by
 cases h with
 |int _ _ e=>rw[e];rfl
def LY {xs:Array Y} {l:List Y} (h:xs.toList=l):xs=l.toArray:=by apply Cg;simpa using h
def I0 {us:gn} {x y:SV} (h:ow g us [x,y]):∃u v,us= [u,v]/\VR g u x/\VR g v y:=by
 cases h with
 |cons h1 h=>cases h with
  |cons h2 h=>cases h;exact ⟨_,_,rfl,h1,h2⟩
def aJo {us:gn} {x:SV} (h:ow g us [x]):∃u,us= [u]/\VR g u x:=by
 cases h with
 |cons h1 h=>cases h;exact ⟨_,rfl,h1⟩
def aao (hE:fU E g) (h:HR g f w) {tm:Tf} (jB:FR g nt tm a.tmps) (hn:g.ρ new=A) {b:Builtin} {ge:Array S'} {ts:Array Ey} {aa:bj} (has:gN tm ge.toList=V aa) (ty:Ey) (cs:Array Bool) {v:SV} {us:ia} (gH:oF E f new b aa ts.toList=V (v,us)):∃r w' g',(builtin b ts ty cs (ge.map a.eval)).run E.P w= .ok (.value r) w'/\hZ g f w v us new r g' w':=by
 have zd:=Cl jB has;have B7:ge.map a.eval=(ge.toList.map a.eval).toArray:=LY am
 rw[B7];generalize ge.toList.map a.eval=vs at zd;cases b with
 |len=>
  let ⟨x,t,h1,h2,ho⟩:=bV (show cq aa.head? ts.toList.head? (λx t=>aT (Cz (O aa) 1) (aA (E.ty.get t) λi=>same (Dk i.desc x f)) A)=V (v,us) from gH)
  let ⟨hl,ho⟩:=bf ho;let ⟨i,hi,ho⟩:=ak ho;let ⟨z,hz,ho⟩:=ak ho;cases ho;have hl:=(f9 _ _).1 hl;obtain rfl:aa= [x]:=by
   cases aa with
   |nil=>simp at hl
   |cons y l=>simp at hl h1;simp[hl,h1]
  obtain ⟨u,rfl,hu⟩:=aJo zd;let ⟨r,r1,r2⟩:=ayN (w:=w) (ty:=ty) hE h hi hu hz;refine ⟨r,w,g,?_,hZ.same h r2⟩;have ht:ts[0]? =V t:=by
   rw[<-ng];cases mU:ts.toList with
   |nil=>rw[mU] at h2;simp at h2
   |cons t' l=>rw[mU] at h2;simpa using h2
  have hl1:(OC ts ty #[u]).run E.P w=(OC #[t] ty #[u]).run E.P w:=by simp only[OC,ht];rfl
  simp only[builtin,P'];rw[hl1,r1];rfl
 |append=>
  let ⟨p,q,h1,h2,ho⟩:=bV (show cq (yF aa) (yF ts.toList) (λp q=>aA (E.ty.get q.2) λi=>aT (Bn i.desc) (nD E f new q.1 p.1 p.2) A)=V (v,us) from gH)
  let ⟨i,hi,ho⟩:=ak ho;let ⟨hr,ho⟩:=bf ho;obtain rfl:=wJ h1;obtain rfl:=LY (wJ h2);obtain ⟨u1,u2,rfl,k1,k2⟩:=I0 zd;let ⟨r,w',g',r1,r2⟩:=ajL (ty:=ty) hE h hn k1 k2 hi hr ho;exact ⟨r,w',g',by simp only[builtin,P'];rw[r1];rfl,r2⟩
 |copy=>
  let ⟨p,t,h1,h2,ho⟩:=bV (show cq (yF aa) ts.toList.head? (λp t=>B8 E f t p.1 p.2)=V (v,us) from gH)
  obtain rfl:=wJ h1;obtain ⟨u1,u2,rfl,k1,k2⟩:=I0 zd;cases mU:ts.toList with
  |nil=>rw[mU] at h2;simp at h2
  |cons t' l=>
   rw[mU] at h2;obtain rfl:t'=t:=by simpa using h2
   obtain rfl:=LY mU;let ⟨r,w',r1,r2⟩:=atC (new:=new) (ty:=ty) (ts:=l) hE h k1 k2 ho;exact ⟨r,w',g,by simp only[builtin,P'];rw[r1];rfl,r2⟩
 |min=>
  let ⟨p,h1,ho⟩:=ak (show aA (yF aa) (λp=>same (U3 E U p.1 p.2))=V (v,us) from gH)
  let ⟨z,hz,ho⟩:=ak ho;cases ho;obtain rfl:=wJ h1;obtain ⟨u1,u2,rfl,k1,k2⟩:=I0 zd;let ⟨r,r1,r2⟩:=abZ (w:=w) hE k1 k2 hz ts ty;refine ⟨r,w,g,?_,hZ.same h r2⟩;simp only[ay,aw] at r1;simp only[builtin,P'];rw[r1];rfl
 |max=>
  let ⟨p,h1,ho⟩:=ak (show aA (yF aa) (λp=>same (U3 E I p.1 p.2))=V (v,us) from gH)
  let ⟨z,hz,ho⟩:=ak ho;cases ho;obtain rfl:=wJ h1;obtain ⟨u1,u2,rfl,k1,k2⟩:=I0 zd;let ⟨r,r1,r2⟩:=abZ (w:=w) hE k1 k2 hz ts ty;refine ⟨r,w,g,?_,hZ.same h r2⟩;simp only[az] at r1;simp only[builtin,P'];rw[r1];rfl
 |_=>cases gH
end
end Go.bM
namespace Go.bM
open Go.RowKit
variable {new i nx:Nat} {o:pw} {x:S'} {q:Nat×Nat} {t e:Ey} {k:FuncId} {DG:Bool} {xs:List S'} {D:Nat->Bool} {r u:O'} {K:Act->World->Prop} {w':World} {KE:Ending->World->Prop} {S:Nat->Prop} {dM:Array Bool} {ms:List Hs} {sa:Array Nat} {fn:Func} {rv:NR}
section
variable {E:Env} {g:Gh} {f:Hf} {w:World}
def aCy (hE:fU E g) (h:HR g f w) {nt:Nat} {tm:Tf} {a:Act} (jB:FR g nt tm a.tmps) (hn:g.ρ new=A) {v:SV} {us:ia} (gH:vf E o.op tm f new=V (v,us)):
  ∃r w' g',aRn E.P o a w r w'/\hZ g f w v us new r g' w':=by
 let ⟨dst,op,ty,pos,after,guard⟩:=o;have val:=λ{x:S'} {y:SV} (hx:dy tm x=V y)=>uf (g:=g) jB hx
 cases op with
 |move x=>
  let ⟨y,hy,ho⟩:=ak (show aA (dy tm x) (λv=>V (v,([]:ia)))=V (v,us) from gH)
  cases ho;exact ⟨_,w,g,.inl rfl,hZ.same h (val hy)⟩
 |assign x=>
  let ⟨y,hy,ho⟩:=ak (show aA (dy tm x) (λv=>V (v,([]:ia)))=V (v,us) from gH)
  cases ho;exact ⟨_,w,g,.inl rfl,hZ.same h (val hy)⟩
 |pick c x y=>
  let ⟨cv,hc,ho⟩:=ak (show aA (dy tm c) (λv=>aA (vr v) λb=>one tm (aT b x y) λv=>V (v,([]:ia)))=V (v,us) from gH)
  let ⟨b,hb,ho⟩:=ak ho;let ⟨z,hz,ho⟩:=ak ho;cases ho;obtain rfl:=B9 hb;have hcv:a.eval c= .bool b:=by have:=val hc;generalize a.eval c=q at this;cases this;rfl
  refine ⟨if b then a.eval x else a.eval y,w,g,.inl ?_,hZ.same h ?_⟩
  .simp only[execOp,hcv,asBool,P',X',V']
  .cases b
   .exact val hz
   .exact val hz
 |alloc e=>
  let ⟨i,hi,ho⟩:=ak (show aA (E.ty.get e) (λi=>V (SV.ptr new 0,[(new,V (SO.cells e i.zero))]))=V (v,us) from gH)
  cases ho;let ⟨z,z1,z2⟩:=are (hE.ty e i hi);refine ⟨.pointer (V ⟨w.heap.size,0,A⟩),_,_,.inl ?_,h.row hn (w0:=w) (w':=w.alloc (.cells z.cells e)) (l:=0) ⟨rfl,rfl,rfl,rfl⟩ rfl (z2 g) (λj v hv=>by simpa using hv) (rY _) (.ptr (o:=0) (off:=0) (Gh.kG _ _ _ _ _))⟩
  simp[execOp,Instr.alloc,z1,newVar,newRow]
 |box e x=>
  let ⟨y,hy,ho⟩:=ak (show aA (dy tm x) (asc new e)=V (v,us) from gH);let ⟨cs,hc,ho⟩:=ak ho;cases ho;refine ⟨.pointer (V ⟨w.heap.size,0,A⟩),_,_,.inl ?_,h.row hn (w0:=w) (w':=w.alloc (.cells (a.eval x).cells e)) (l:=0) ⟨rfl,rfl,rfl,rfl⟩ rfl ((val hy).jD hc) (λj v hv=>by simpa using hv) (rY _) (.ptr (o:=0) (off:=0) (Gh.kG _ _ _ _ _))⟩
  simp[execOp,Instr.box,newVar,newRow]
 |build t jp=>
  let ⟨jH,hpc,ho⟩:=ak (show aA (np tm jp.toList) (λjH=>same (OG E t jH))=V (v,us) from gH)
  let ⟨x,hx,ho⟩:=ak ho;cases ho;let ⟨hl,hpt⟩:=akT jB jp.toList jH hpc;let ⟨r,r1,r2⟩:=anD hE (jp:=jp.map λ(i,x)=>(i,a.eval x)) hx (by simpa using hl) (λj i v i' xs h1 h2=>hpt j i v i' xs (by simpa using h1) h2) w
  exact ⟨r,w,g,.inl (by simp only[execOp,P',r1,V',X']),hZ.same h r2⟩
 |buildSlice t len jp=>
  let ⟨jH,hpc,ho⟩:=ak (show aA (np tm jp.toList) (λjH=>rb E new t len jH)=V (v,us) from gH)
  let ⟨r,w',g',r1,r2⟩:=ae7 hE h hn jB hpc ho;exact ⟨r,w',g',.inl (by simp only[execOp,P',r1,V',X']),r2⟩
 |insert t m k x=>
  let ⟨y1,y2,h1,h2,ho⟩:=bV (show cq (dy tm m) (dy tm k) (λa b=>one tm x λc=>unit (Dc E f t a b c))=V (v,us) from gH)
  let ⟨y3,h3,ho⟩:=ak ho;let ⟨us',hu,ho⟩:=ak ho;cases ho;let ⟨w',r1,r2,r3⟩:=abJ hE h (val h1) (val h2) (val h3) hu;exact ⟨undef,w',g,.inr ⟨by simp only[execOp,P',r1,V',X'],rfl⟩,⟨.dh .nil,r2,r3,λ_ _=>rfl,λ_=>rfl⟩⟩
 |mapUpdate t m k x=>
  let ⟨y1,y2,h1,h2,ho⟩:=bV (show cq (dy tm m) (dy tm k) (λa b=>one tm x λc=>unit (Dc E f t a b c))=V (v,us) from gH)
  let ⟨y3,h3,ho⟩:=ak ho;let ⟨us',hu,ho⟩:=ak ho;cases ho;let ⟨w',r1,r2,r3⟩:=abJ hE h (val h1) (val h2) (val h3) hu;exact ⟨undef,w',g,.inr ⟨by simp only[execOp,P',r1,V',X'],rfl⟩,⟨.dh .nil,r2,r3,λ_ _=>rfl,λ_=>rfl⟩⟩
 |load t x=>
  let ⟨y,hy,ho⟩:=ak (show aA (dy tm x) (λv=>same (sy E f t v))=V (v,us) from gH)
  let ⟨z,hz,ho⟩:=ak ho;cases ho;let ⟨r,r1,r2⟩:=aad hE h (val hy) hz;exact ⟨r,w,g,.inl (by simp only[execOp,P',r1,V',X']),hZ.same h r2⟩
 |store t x y=>
  let ⟨y1,y2,h1,h2,ho⟩:=bV (show cq (dy tm x) (dy tm y) (λa v=>unit (xK E f t v a))=V (v,us) from gH)
  let ⟨us',hu,ho⟩:=ak ho;cases ho;let ⟨w',r1,r2,r3⟩:=amZ hE h (val h1) (val h2) hu;exact ⟨undef,w',g,.inr ⟨by simp only[execOp,P',r1,V',X'],rfl⟩,⟨.dh .nil,r2,r3,λ_ _=>rfl,λ_=>rfl⟩⟩
 |nilCheck x=>
  let ⟨y,hy,ho⟩:=ak (show aA (dy tm x) (λv=>same (adt v))=V (v,us) from gH)
  let ⟨z,hz,ho⟩:=ak ho;cases ho;obtain ⟨rfl,hk⟩:=asd hz;have hv:=val hy;refine ⟨a.eval x,w,g,.inl ?_,hZ.same h hv⟩;rcases hk with ⟨i,o,rfl⟩|⟨fn,c1,c2,rfl⟩<;>(generalize hq:a.eval x=q at hv;cases hv;simp only[execOp,hq,X'])
 |binOp op t x y yt=>
  let ⟨y1,y2,h1,h2,ho⟩:=bV (show cq (dy tm x) (dy tm y) (λv u=>same (Ta E op t x y v u))=V (v,us) from gH)
  let ⟨z,hz,ho⟩:=ak ho;cases ho;let ⟨r,r1,r2⟩:=aAM hE hz (val h1) (val h2) w;exact ⟨r,w,g,.inl (by simp only[execOp,P'] at r1 ⊢;rw[r1];rfl),hZ.same h r2⟩
 |unOp op t x=>
  let ⟨y,hy,ho⟩:=ak (show aA (dy tm x) (λv=>same (unA op v))=V (v,us) from gH)
  let ⟨z,hz,ho⟩:=ak ho;cases ho;let ⟨r,r1,r2⟩:=aBY hz (val hy) (P:=E.P) w;exact ⟨r,w,g,.inl (by simp only[execOp,P',r1,V',X']),hZ.same h r2⟩
 |convert s d x=>
  let ⟨y,hy,ho⟩:=ak (show aA (dy tm x) (λv=>same (Vr E s d v))=V (v,us) from gH)
  let ⟨z,hz,ho⟩:=ak ho;cases ho;let ⟨r,r1,r2⟩:=atE hE hz (val hy) w;exact ⟨r,w,g,.inl (by simp only[execOp,P',r1,V',X']),hZ.same h r2⟩
 |makeInterface t x=>
  let ⟨y,hy,ho⟩:=ak (show aA (dy tm x) (ads E t)=V (v,us) from gH);let ⟨r,r1,r2⟩:=asb (new:=new) hE h (val hy) ho;exact ⟨r,w,g,.inl (by simp only[execOp,P',r1,V',X']),r2⟩
 |makeFunc fn first kL=>
  let ⟨qH,ho⟩:=bf (show aT (OJ fn) (cq (gN tm first.toList) (gN tm kL.toList) λl m=>V (SV.fn fn l m,([]:ia))) A=V (v,us) from gH)
  let ⟨l,m,h1,h2,ho⟩:=bV ho;cases ho;cases fn with
  |func k=>
   refine ⟨.func (.func k) (first.map a.eval) (kL.map a.eval),w,g,.inl ?_,hZ.same h (.fn ?_ ?_)⟩
   .simp[execOp,Instr.makeFunc]
   .simpa using Cl jB h1
   .simpa using Cl jB h2
  |_=>cases qH
 |makeMap t r=>
  have mk:∀(hv:v= .mp new) (hu:us= [(new,V (.map [] 0))]),∃g',hZ g f w v us new (.map (V w.heap.size)) g' (w.alloc (.map #[] 0)):=by
   rintro rfl rfl;let ⟨r1,r2⟩:=h.alloc hn (o':=.map [] 0) (w':=w.alloc (.map #[] 0)) (l:=0) (e:=0) rfl ⟨#[],heap_alloc_new w _,.nil⟩;exact ⟨_,.mp (o:=0) (Gh.kG _ _ _ _ _),r1,r2,λid dd=>Gh.nC _ _ _ _ dd,λFE=>by cases FE⟩
  cases r with
  |none=>
   cases (show V (SV.mp new,[(new,V (SO.map [] 0))])=V (v,us) from gH);let ⟨g',q⟩:=mk rfl rfl;refine ⟨_,_,g',.inl ?_,q⟩;simp[execOp,Instr.makeMap,newObj];rfl
  |some x=>
   let ⟨i,y,hi,hy,ho⟩:=bV (show cq (E.ty.get t) (dy tm x) (λi v=>cq (H5 i.desc) (ph v) λ_ _=>ail new)=V (v,us) from gH)
   let ⟨q,n,hq,N4,ho⟩:=bV ho;cases ho;let ⟨g',p⟩:=mk rfl rfl;obtain ⟨k,rfl⟩:=xk N4;have hx:=NG (val hy);have ht:=(hE.ty t i hi).desc;rw[ajc hq] at ht;have ht:E.P.underlying t=V (.map q.1 q.2):=ht;refine ⟨_,_,g',.inl ?_,p⟩;simp[execOp,Instr.makeMap,newObj,run_underlying ht,hx,asInt];rfl
 |makeSlice t l c=>
  let ⟨y1,y2,h1,h2,ho⟩:=bV (show cq (dy tm l) (dy tm c) (λu v=>cq (ph u) (ph v) (Jh E new t))=V (v,us) from gH)
  let ⟨n1,n2,k1,k2,ho⟩:=bV ho;obtain ⟨q1,rfl⟩:=xk k1;obtain ⟨q2,rfl⟩:=xk k2;have e1:=NG (val h1);have e2:=NG (val h2);let ⟨r,w',g',r1,r2⟩:=anp (kl:=q1) (kc:=q2) hE h hn ho;exact ⟨r,w',g',.inl (by simp only[execOp,P',e1,e2,r1,V',X']),r2⟩
 |slice t x lo hi mx=>
  let ⟨y,hy,ho⟩:=ak (show aA (dy tm x) (λv=>uQ (kF tm lo) (kF tm hi) (kF tm mx) λl u m=>same (zx E t v l u m))=V (v,us) from gH)
  let ⟨l,u,m,h1,h2,h3,ho⟩:=Ed ho;let ⟨z,hz,ho⟩:=ak ho;cases ho;let ⟨r,r1,r2⟩:=ane (w:=w) hE jB (val hy) h1 h2 h3 hz;exact ⟨r,w,g,.inl (by simp only[execOp,P',r1,V',X']),hZ.same h r2⟩
 |fieldAddr s x k=>
  let ⟨y,hy,ho⟩:=ak (show aA (dy tm x) (sU E s k)=V (v,us) from gH);let ⟨r,r1,r2⟩:=aa0 (new:=new) hE h (val hy) ho;exact ⟨r,w,g,.inl (by simp only[execOp,P',r1,V',X']),r2⟩
 |field t x k=>
  let ⟨y,hy,ho⟩:=ak (show aA (dy tm x) (EH E t k)=V (v,us) from gH);let ⟨r,r1,r2⟩:=aif (new:=new) hE h (val hy) ho;exact ⟨r,w,g,.inl (by simp only[execOp,P',r1,V',X']),r2⟩
 |indexAddr t x ix=>
  let ⟨y1,y2,h1,h2,ho⟩:=bV (show cq (dy tm x) (dy tm ix) (λv u=>aA (ph u) λk=>same (sA E t v k))=V (v,us) from gH)
  let ⟨n,N4,ho⟩:=ak ho;let ⟨z,hz,ho⟩:=ak ho;cases ho;obtain ⟨q,rfl⟩:=xk N4;have e2:=NG (val h2);let ⟨r,r1,r2⟩:=aa5 (w:=w) (kk:=q) hE (val h1) hz;exact ⟨r,w,g,.inl (by simp only[execOp,P',e2,r1,V',X']),hZ.same h r2⟩
 |index t x ix=>
  let ⟨y1,y2,h1,h2,ho⟩:=bV (show cq (dy tm x) (dy tm ix) (λv u=>aA (ph u) λk=>Bu E t k v)=V (v,us) from gH)
  let ⟨n,N4,ho⟩:=ak ho;obtain ⟨q,rfl⟩:=xk N4;have e2:=NG (val h2);let ⟨r,r1,r2⟩:=aie (new:=new) (kk:=q) hE h (val h1) ho;exact ⟨r,w,g,.inl (by simp only[execOp,P',e2,r1,V',X']),r2⟩
 |lookup t x k ok=>
  let ⟨y1,y2,h1,h2,ho⟩:=bV (show cq (dy tm x) (dy tm k) (λa b=>same (xl E f t a b ok))=V (v,us) from gH)
  let ⟨z,hz,ho⟩:=ak ho;cases ho;let ⟨r,r1,r2⟩:=ais hE h (val h1) (val h2) hz;exact ⟨r,w,g,.inl (by simp only[execOp,P',r1,V',X']),hZ.same h r2⟩
 |range t x=>
  let ⟨y,hy,ho⟩:=ak (show aA (dy tm x) (Bt E f new t)=V (v,us) from gH);let ⟨r,w',g',r1,r2⟩:=aic hE h hn (val hy) ho;exact ⟨r,w',g',.inl (by simp only[execOp,P',r1,V',X']),r2⟩
 |next it DG=>
  let ⟨y,hy,ho⟩:=ak (show aA (dy tm it) (Fq f DG)=V (v,us) from gH);let ⟨r,w',r1,r2⟩:=ano (new:=new) (ty:=ty) hE h (val hy) ho;exact ⟨r,w',g,.inl (by simp only[execOp,P',r1,V',X']),r2⟩
 |typeAssert x xt t ok=>
  let ⟨y,hy,ho⟩:=ak (show aA (dy tm x) (La E t ok)=V (v,us) from gH);let ⟨r,r1,r2⟩:=acW (new:=new) (xt:=xt) hE h (val hy) ho;exact ⟨r,w,g,.inl (by simp only[execOp,P',r1,V',X']),r2⟩
 |extract x i=>
  let ⟨y,hy,ho⟩:=ak (show aA (dy tm x) (λv=>aA (Ua v) λvs=>same (vs[i]?))=V (v,us) from gH)
  let ⟨vs,zd,ho⟩:=ak ho;let ⟨z,hz,ho⟩:=ak ho;cases ho;obtain rfl:=arw zd;have hv:=val hy;generalize hq:a.eval x=q at hv;cases hv with
  |dh hr=>
   let ⟨u,u1,u2⟩:=hr.get hz;refine ⟨u,w,g,.inl ?_,hZ.same h u2⟩;simp only[execOp,hq,Instr.extract];rw[ng] at u1;rw[u1];rfl
 |call c=>
  have ho:qj E tm f new c=V (v,us):=gH;unfold qj at ho;split at ho
  .rename_i b hb;let ⟨aa,has,ho⟩:=ak ho;let ⟨r,w',g',r1,r2⟩:=aao hE h jB hn (ts:=c.argTypes) has ty (c.args.map fun| .const _=>I|_=>U) ho
   refine ⟨r,w',g',.inl ?_,r2⟩;simp only[execOp,resolve,hb,P',X',V',invoke];exact r1
  .cases ho
 |_=>cases gH
end
section
variable {E:Env} {g:Gh} {f f':Hf} {w:World} {T T':Tf}
def ars (h:∀t,x= .tmp t->T t=T' t):dy T x=dy T' x:=by
 cases x with
 |tmp t=>exact h t rfl
 |_=>rfl
def zq:∀{xs:List S'},(∀x∈xs,dy T x=dy T' x)->gN T xs=gN T' xs
 | [],_=>rfl
 |x::xs,h=>by
  show cq (dy T x) (gN T xs) _=cq (dy T' x) (gN T' xs) _;rw[h x am,zq λy hy=>h y (by simp[hy])]
def akV:∀{ps:List (Nat×S')},(∀p∈ps,dy T p.2=dy T' p.2)->np T ps=np T' ps
 | [],_=>rfl
 |p::ps,h=>by
  show aA (dy T p.2) (λv=>cq v.cells (np T ps) _)=aA (dy T' p.2) (λv=>cq v.cells (np T' ps) _)
  rw[h p am,akV λq hq=>h q (by simp[hq])]
def akU {x:G S'} (h:∀y,x=V y->dy T y=dy T' y):kF T x=kF T' x:=by
 cases x with
 |none=>rfl
 |some y=>
  show aA (dy T y) _=aA (dy T' y) _;rw[h y rfl]
def afN {v:SV} (h:yf v=V q):q.1∈lW (V v):=by
 rw[so h];simp[lW]
def ant {v:SV} (h:∀id∈lW (V v),f id=f' id):sy E f t v=sy E f' t v:=by
 unfold sy;cases hp:yf v with
 |none=>rfl
 |some q=>
  show aA (E.ty.get t) (λi=>aA (jD (f q.1) q.2 (wide i)) _)=aA (E.ty.get t) (λi=>aA (jD (f' q.1) q.2 (wide i)) _)
  rw[h _ (afN hp)]
def afP {v a:SV} (h:∀id∈lW (V a),f id=f' id):xK E f t v a=xK E f' t v a:=by
 unfold xK;cases hp:yf a with
 |none=>rfl
 |some q=>
  show uQ (E.ty.get t) v.cells (ny (f q.1)) _=uQ (E.ty.get t) v.cells (ny (f' q.1)) _;rw[h _ (afN hp)]
def ajq {x:SV} (h:∀id∈lW (V x),f id=f' id):ajr x f=ajr x f':=by
 cases x<;>first|rfl|(rename_i id;show aA (ln (f id)) _=aA (ln (f' id)) _;rw[h id (by simp[lW])])
def acX {x k:SV} {ok:Bool} (h:∀id∈lW (V x),f id=f' id):xl E f t x k ok=xl E f' t x k ok:=by
 unfold xl;rw[ajq h]
def abB {x k v:SV} (h:∀id∈lW (V x),f id=f' id):Dc E f t x k v=Dc E f' t x k v:=by
 unfold Dc;cases hp:aCD x with
 |none=>rfl
 |some id=>
  have:=abY hp;subst this;show aA (E.ty.get t) (λi=>aA (H5 i.desc) λq=>cq (E.ty.get q.1) (ln (f id)) _)=aA (E.ty.get t) (λi=>aA (H5 i.desc) λq=>cq (E.ty.get q.1) (ln (f' id)) _)
  rw[h id (by simp[lW])]
def acV {x:SV} (h:∀id∈lW (V x),f id=f' id):Bt E f new t x=Bt E f' new t x:=by
 have e:∀D:UD,Jd D x f=Jd D x f':=by
  intro D;cases D<;>first|rfl|skip
  cases x<;>first|rfl|(rename_i id;show aA (ln (f id)) _=aA (ln (f' id)) _;rw[h id (by simp[lW])])
 unfold Bt;simp only[e]
def aid {x:SV} (h:∀id∈lW (V x),f id=f' id):Fq f DG x=Fq f' DG x:=by
 unfold Fq;cases hp:anG x with
 |none=>rfl
 |some id=>
  let ⟨q,h1,h2⟩:=ak hp;let ⟨_,h2⟩:=bf h2;cases h2;show aT DG (aA (Ql (f q.1)) _) A=aT DG (aA (Ql (f' q.1)) _) A;rw[h _ (afN h1)]
def ab1 {id off n:Nat} (h:f id=f' id):lx f id off n=lx f' id off n:=by unfold lx;rw[h]
def abv {size:Nat} {x:SV} (h:∀id∈lW (V x),f id=f' id):pP f size x=pP f' size x:=by
 cases x<;>first
  |rfl
  |(
   rename_i id off n c
   have e:rowOf (.sl id off n c) f size=rowOf (.sl id off n c) f' size:=ab1 (h id (by simp[lW]))
   show Ct f size (.sl id off n c)=Ct f' size (.sl id off n c)
   unfold Ct
   rw[e])
def anF {s:SV} {size m:Nat} {xs:bj} (h:∀id∈lW (V s),f id=f' id):sK s f new e size m xs=sK s f' new e size m xs:=by
 cases s<;>first
  |rfl
  |(
   rename_i id off n c
   show HA f new e size m xs id off n c=HA f' new e size m xs id off n c
   unfold HA
   rw[h id (by simp[lW]),ab1 (h id (by simp[lW]))])
def ada {s x:SV} (h1:∀id∈lW (V s),f id=f' id) (h2:∀id∈lW (V x),f id=f' id):nD E f new t s x=nD E f' new t s x:=by
 unfold nD QC;have e1:∀size,pP f size x=pP f' size x:=λsize=>abv h2
 have e2:∀e size m xs,sK s f new e size m xs=sK s f' new e size m xs:=λe size m xs=>anF h1
 simp only[e1,e2]
def ajz {d:SV} {size n:Nat} {xs:bj} (h:∀id∈lW (V d),f id=f' id):F4 d f size n xs=F4 d f' size n xs:=by
 cases d<;>first
  |rfl
  |(
   rename_i id off m c
   show JE f size n xs id off=JE f' size n xs id off
   unfold JE
   rw[h id (by simp[lW])])
def anC {d s:SV} (h1:∀id∈lW (V d),f id=f' id) (h2:∀id∈lW (V s),f id=f' id):B8 E f t d s=B8 E f' t d s:=by
 unfold B8 atB;have e1:∀size,pP f size s=pP f' size s:=λsize=>abv h2
 have e2:∀size m xs,F4 d f size m xs=F4 d f' size m xs:=λsize m xs=>ajz h1
 simp only[e1,e2]
def aso {D:UD} {x:SV} (h:∀id∈lW (V x),f id=f' id):Dk D x f=Dk D x f':=by
 cases D<;>first
  |rfl
  |(
   show aCL x f=aCL x f'
   cases x<;>first|rfl|(rename_i id;show aA (ln (f id)) _=aA (ln (f' id)) _;rw[h id (by simp[lW])]))
def wA (hx:x∈xs) {id:Nat} (h:id∈lW (dy T x)):id∈rI T xs:=by
 induction xs with
 |nil=>simp at hx
 |cons y ys ih=>
  show id∈lW (dy T y)++rI T ys;rw[fk];rcases cU.1 hx with rfl|hx
  .exact .inl h
  .exact .inr (ih hx)
def aiN:∀{xs:List S'} {aa:bj},gN T xs=V aa->∀a∈aa,∀id∈lW (V a),id∈rI T xs
 | [],aa,h,a,ha,_,_=>by cases h;simp at ha
 |x::xs,aa,h,a,ha,id,jA=>by
  let ⟨v,l,h1,h2,h3⟩:=bV h;cases h3;show id∈lW (dy T x)++rI T xs;rw[fk];rcases cU.1 ha with rfl|ha
  .rw[h1];exact .inl jA
  .exact .inr (aiN h2 a ha id jA)
def acb:∀{xs:List S'} {aa:bj},gN T xs=V aa->∀a∈aa,∀id∈idM (V a),id∈Lo T xs
 | [],aa,h,a,ha,id,jA=>by
  have h:V []=V aa:=h;cases h;cases ha
 |x::xs,aa,h,a,ha,id,jA=>by
  let ⟨v,l,h1,h2,h3⟩:=bV (show cq (dy T x) (gN T xs) (λv l=>V (v::l))=V aa from h)
  cases h3;show id∈idM (dy T x)++Lo T xs;rcases cU.1 ha with e|ha
  .rw[h1,<-e];exact iP _ jA
  .exact jw _ (acb h2 a ha id jA)
def aMJ (b:Builtin):Bool:=match b with| .len=>I|_=>U
def anu {D:UD} {x:SV} (h:∀id∈idM (V x),f id=f' id):Dk D x f=Dk D x f':=by
 cases x<;>first|exact aso h|(cases D<;>rfl)
def ayB {op:Op} (hT:∀x∈op.operands.toList,dy T x=dy T' x) (hf:∀id∈P8 op T,f id=f' id):vf E op T f new=vf E op T' f' new:=by
 have sr:∀(x:S') (k:SV->gZ),x∈op.operands.toList->one T x k=one T' x k:=λx k hx=>by unfold one;rw[hT x hx]
 have Nj:∀(x y:S') (k:SV->SV->gZ),x∈op.operands.toList->y∈op.operands.toList->two T x y k=two T' x y k:=λx y k hx hy=>by unfold two;rw[hT x hx,hT y hy]
 have UC:∀(x:S') (k k':SV->gZ),x∈op.operands.toList->(∀v,dy T x=V v->k v=k' v)->one T x k=one T' x k':=λx k k' hx hk=>by
  rw[<-sr x k' hx];unfold one;cases hv:dy T x with
  |none=>rfl
  |some v=>exact hk v hv
 have Z7:∀(x y:S') (k k':SV->SV->gZ),x∈op.operands.toList->y∈op.operands.toList->(∀v u,dy T x=V v->dy T y=V u->k v u=k' v u)->two T x y k=two T' x y k':=λx y k k' hx hy hk=>by
  rw[<-Nj x y k' hx hy];unfold two;cases hv:dy T x with
  |none=>rfl
  |some v=>
   cases hu:dy T y with
   |none=>rfl
   |some u=>exact hk v u hv hu
 cases op with
 |move x=>exact sr x _ (by simp[Z'])
 |assign x=>exact sr x _ (by simp[Z'])
 |pick c x y=>
  show aA (dy T c) (λv=>aA (vr v) λb=>one T (aT b x y) _)=aA (dy T' c) (λv=>aA (vr v) λb=>one T' (aT b x y) _)
  rw[hT c (by simp[Z'])]
  congr 1;funext v;congr 1;funext b;cases b
  .exact sr y _ (by simp[Z'])
  .exact sr x _ (by simp[Z'])
 |alloc e=>rfl
 |box e x=>exact sr x _ (by simp[Z'])
 |build t ps=>
  show aA (np T ps.toList) _=aA (np T' ps.toList) _;rw[akV λp hp=>hT p.2 (by simp[Z'];exact ⟨p.1,by simpa using hp⟩)]
 |buildSlice t n ps=>
  show aA (np T ps.toList) _=aA (np T' ps.toList) _;rw[akV λp hp=>hT p.2 (by simp[Z'];exact ⟨p.1,by simpa using hp⟩)]
 |insert t m k x=>
  refine Z7 m k _ _ (by simp[Z']) (by simp[Z']) λv u hv hu=>UC x _ _ (by simp[Z']) λc hc=> ?_
  rw[abB λid jA=>hf id (wA (xs:= [m,k,x]) (x:=m) am (by rw[hv];exact jA))]
 |mapUpdate t m k x=>
  refine Z7 m k _ _ (by simp[Z']) (by simp[Z']) λv u hv hu=>UC x _ _ (by simp[Z']) λc hc=> ?_
  rw[abB λid jA=>hf id (wA (xs:= [m,k,x]) (x:=m) am (by rw[hv];exact jA))]
 |load t x=>
  refine UC x _ _ (by simp[Z']) λv hv=> ?_
  rw[ant λid jA=>hf id (wA (xs:= [x]) (x:=x) am (by rw[hv];exact jA))]
 |store t x y=>
  refine Z7 x y _ _ (by simp[Z']) (by simp[Z']) λv u hv hu=> ?_
  rw[afP λid jA=>hf id (wA (xs:= [x,y]) (x:=x) am (by rw[hv];exact jA))]
 |nilCheck x=>exact sr x _ (by simp[Z'])
 |binOp op t x y yt=>exact Nj x y _ (by simp[Z']) (by simp[Z'])
 |unOp op t x=>exact sr x _ (by simp[Z'])
 |convert s d x=>exact sr x _ (by simp[Z'])
 |makeInterface t x=>exact sr x _ (by simp[Z'])
 |makeFunc fn a c=>
  show aT (OJ fn) (cq (gN T a.toList) (gN T c.toList) _) A=aT (OJ fn) (cq (gN T' a.toList) (gN T' c.toList) _) A;rw[zq λx hx=>hT x (by simp[Z'];exact .inl (by simpa using hx)),zq λx hx=>hT x (by simp[Z'];exact .inr (by simpa using hx))]
 |makeMap t r=>
  cases r with
  |none=>rfl
  |some x=>
   show cq (E.ty.get t) (dy T x) _=cq (E.ty.get t) (dy T' x) _;rw[hT x (by simp[Z'])]
 |makeSlice t l c=>exact Nj l c _ (by simp[Z']) (by simp[Z'])
 |slice t x lo hi mx=>
  refine UC x _ _ (by simp[Z']) λv hv=> ?_
  rw[akU (x:=lo) λy hy=>hT y (by subst hy;simp[Z']),akU (x:=hi) λy hy=>hT y (by subst hy;simp[Z']),akU (x:=mx) λy hy=>hT y (by subst hy;simp[Z'])]
 |fieldAddr s x k=>exact sr x _ (by simp[Z'])
 |field t x k=>exact sr x _ (by simp[Z'])
 |indexAddr t x ix=>exact Nj x ix _ (by simp[Z']) (by simp[Z'])
 |index t x ix=>exact Nj x ix _ (by simp[Z']) (by simp[Z'])
 |lookup t x k ok=>
  refine Z7 x k _ _ (by simp[Z']) (by simp[Z']) λv u hv hu=> ?_
  rw[acX λid jA=>hf id (wA (xs:= [x,k]) (x:=x) am (by rw[hv];exact jA))]
 |range t x=>
  refine UC x _ _ (by simp[Z']) λv hv=> ?_
  exact acV λid jA=>hf id (wA (xs:= [x]) (x:=x) am (by rw[hv];exact jA))
 |next it DG=>
  refine UC it _ _ (by simp[Z']) λv hv=> ?_
  exact aid λid jA=>hf id (wA (xs:= [it]) (x:=it) am (by rw[hv];exact jA))
 |typeAssert x xt t ok=>exact sr x _ (by simp[Z'])
 |extract x i=>exact sr x _ (by simp[Z'])
 |call c=>
  show qj E T f new c=qj E T' f' new c;unfold qj;split
  .rename_i b hb;have ev:gN T c.args.toList=gN T' c.args.toList:=zq λx hx=>hT x (by simp[Z',Call.operands,hb];simpa using hx)
   rw[<-ev];cases hv:gN T c.args.toList with
   |none=>rfl
   |some aa=>
    have hid0:wE c=U->∀a∈aa,∀id∈lW (V a),f id=f' id:=λhl a ha id h=>hf id (by
     show id∈aT (wE c) (Lo T c.args.toList) (rI T c.args.toList);rw[hl];exact aiN hv a ha id h)
    have hidM:wE c=I->∀a∈aa,∀id∈idM (V a),f id=f' id:=λhl a ha id h=>hf id (by
     show id∈aT (wE c) (Lo T c.args.toList) (rI T c.args.toList);rw[hl];exact acb hv a ha id h)
    have aCN:wE c=aMJ b:=by unfold wE;rw[hb];cases b<;>rfl
    show oF E f new b aa _=oF E f' new b aa _;have e1:wE c=U->∀t p,yF aa=V p->nD E f new t p.1 p.2=nD E f' new t p.1 p.2:=λhl t p h1=>by
     have jA:=hid0 hl;have hp:=wJ h1;exact ada (jA p.1 (by rw[hp];simp)) (jA p.2 (by rw[hp];simp))
    have e2:wE c=U->∀t p,yF aa=V p->B8 E f t p.1 p.2=B8 E f' t p.1 p.2:=λhl t p h1=>by
     have jA:=hid0 hl;have hp:=wJ h1;exact anC (jA p.1 (by rw[hp];simp)) (jA p.2 (by rw[hp];simp))
    have e3:wE c=I->∀D x,aa.head? =V x->Dk D x f=Dk D x f':=λhl D x h1=>anu (hidM hl x (List.mem_of_head? h1))
    unfold oF;cases b<;>(first|(have e1:=e1 aCN;have e2:=e2 aCN)|(have e3:=e3 aCN))<;>first
     |rfl
     |(
      simp only
      generalize hq:yF aa=q at e1 e2
      cases q with
      |none=>rfl
      |some p=>first|(simp only[cq,e1 _ p rfl];done)|(simp only[cq,e2 _ p rfl];done))
     |(
      simp only
      generalize hq:aa.head? =q at e3
      cases q with
      |none=>rfl
      |some p=>simp only[cq,e3 _ p rfl])
  .rfl
 |_=>rfl
end
section
variable {E:Env} {g:Gh} {f:Hf} {w:World}
variable {Q:Exit->Act->World->Prop} {nZ:Nat}
def xz (ro:cC):Fence:={fn:=λ_=>True,depth:=A,alive:=U,round:=ro}
def eE (T:Tf) (d:cC) (v:SV):Tf:=λt=>if d=V t then V v else T t
def aEl {nt d:Nat} (h:ot nt (V d)=I):d<nt:=(bO _ _).1 h
def FR.put {nt:Nat} {T:Tf} {a:Act} (h:FR g nt T a.tmps) {d:cC} (hd:ot nt d=I) {v:SV} (hv:VR g r v):FR g nt (eE T d v) (a.put d r).tmps:=by
 cases d with
 |none=>
  refine ⟨h.sz,λt x hx=>h.tm t x ?_⟩
  simpa[eE] using hx
 |some d=>
  have cT:=aEl hd;refine ⟨by simpa[Act.put] using h.sz,λt x hx=> ?_⟩
  simp only[eE,asU] at hx;show VR g ((a.tmps.setIfInBounds d r).getD t undef) x;simp only[vA,afB];split at hx
  .rename_i e;subst e;obtain rfl:v=x:=by simpa using hx
   have:d<a.tmps.size:=by rw[h.sz];exact cT
   simpa[this] using hv
  .rename_i e;rw[au e];have:=h.tm t x hx;simpa[vA] using this
def put_defers (a:Act) (d:cC) (r:O'):(a.put d r).defers=a.defers:=by cases d<;>rfl
def GQ:∀(l:oL) (j:Nat),ND l j=(l[j]?).bind (·.dst)
 | [],j=>by simp;rfl
 |o::l,0=>rfl
 |o::l,j+1=>by
  show ND l j=_;rw[GQ l j];simp
def BT {nt:Nat} {T:Tf} {a:Act} (h:FR g nt T a.tmps) {all:fD} {b:Bool} (hw:kI all.toList o T=V b):adi o (yielded all a.tmps)=b:=by
 unfold kI at hw;unfold adi;cases hg:o.guard with
 |none=>rw[hg] at hw;cases hw;rfl
 |some p=>
  let ⟨j,want⟩:=p;rw[hg] at hw;have hw:yR all.toList T j want=V b:=hw;unfold yR at hw;rw[GQ,ng] at hw;simp only[yielded];cases hd:(all[j]?).bind (·.dst) with
  |none=>
   rw[hd] at hw;cases hw;simp
  |some t=>
   rw[hd] at hw;let ⟨x,hx,hw⟩:=ak (show aA (T t) (arq want)=V b from hw);have hv:=h.tm t x hx;simp only[ai];rw[vA] at hv;cases ht:a.tmps[t]? with
   |none=>
    rw[ht] at hv;simp only[IK] at hv;have hu:(undef:O')= .tuple #[]:=rfl;rw[hu] at hv;cases hv with
    |dh _=>cases hw;rfl
    |undef _=>cases hw
   |some u=>
    rw[ht] at hv;simp only[AY] at hv;cases hv<;>first
     |(cases hw;rfl)
     |(rename_i c;cases hw;cases c<;>cases want<;>rfl)
     |cases hw
def sV (D:Nat->Bool) (H f:Hf):Hf:=λx=>if D x=I then H x else f x
def VJ (E:Env) (ro:cC) (nt:Nat) (all:fD) (i:Nat) (o:pw) (T:Tf) (need:Nat->Prop) (H:Hf) (frp newp:Nat->Prop) (v:SV) (D:Nat->Bool) (H':Hf):Prop:=
 ∀(m:Nat) (g:Gh) (f:Hf) (T1:Tf) (a:Act) (w:World) (K:Act->World->Prop) (Q:Exit->Act->World->Prop),fU E g->FR g nt T1 a.tmps->HR g f w->(∀t∈o.looksAt all,T1 t=T t)->(∀x,need x->f x=H x)->(∀x,frp x->g.ρ x=A)->
  (∀r w' g',FR g' nt (eE T1 o.dst v) (a.put o.dst r).tmps->HR g' (sV D H' f) w'->Fr g f w g' (sV D H' f) w'->(∀x,¬newp x->g'.ρ x=g.ρ x)->K (a.put o.dst r) w')->
  wpOpIn (xz ro) m E.P all Q i K a w
def ab7 {all:fD} {T T1:Tf} (h:∀t∈o.looksAt all,T1 t=T t):∀x∈o.op.operands.toList,dy T1 x=dy T x:=λx hx=>ars λt ht=>h t (by
 subst ht;exact iP _ (wW.2 ⟨.tmp t,hx,rfl⟩))
def ala {all:fD} {T T1:Tf} (h:∀t∈o.looksAt all,T1 t=T t):kI all.toList o T1=kI all.toList o T:=by
 unfold kI;cases hg:o.guard with
 |none=>rfl
 |some p=>
  show yR all.toList T1 p.1 p.2=yR all.toList T p.1 p.2;unfold yR;rw[GQ,ng];cases hd:(all[p.1]?).bind (·.dst) with
  |none=>rfl
  |some t=>
   show aA (T1 t) _=aA (T t) _;rw[h t (by simp[Oper.looksAt,hg,hd])]
def EZ:∀(us:ia) (H f:Hf) (x:Nat),iH f us x=if x∈us.map (·.1) then iH H us x else f x
 | [],H,f,x=>by simp[iH]
 |u::us,H,f,x=>by
  show iH (jG f u) us x=if x∈(u::us).map (·.1) then iH (jG H u) us x else f x
  rw[EZ us (jG H u) (jG f u) x];by_cases h1:x∈us.map (·.1)
  .rw[ax h1,ax (by simp at h1 ⊢;exact .inr h1)]
  .rw[au h1];by_cases h2:x=u.1
   .rw[ax (by simp[h2])]
    rw[EZ us (jG f u) (jG H u) x,au h1];simp[jG,h2]
   .rw[au (by simp at h1 ⊢;exact ⟨h2,h1⟩)]
    simp[jG,h2]
def Eg {ro:cC} {a:Act} (P:Y') (w:World):∀k,o.about P w a.eval=V k->(xz ro).fn k:=λ_ _=>trivial
def ana {ro:cC} {nt:Nat} {all:fD} {T:Tf} {H:Hf} {v:SV} {us:ia} (hi:all[i]? =V o) (hw:kI all.toList o T=V I) (hd:ot nt o.dst=I) (ho:vf E o.op T H new=V (v,us)) (hH:H new=A) (hD:∀x,D x=I↔(x∈us.map (·.1)\/x=new)) (DI:∀c,o.op≠ .defer c):
  VJ E ro nt all i o T (λx=>x∈P8 o.op T) H (λx=>x=new) (λx=>x=new/\us≠ []) v D (iH H us):=by
 intro m g f T1 a w K Q hE jB hr hT Lt rV hk;have e1:vf E o.op T1 f new=V (v,us):=by
  rw[<-ho];refine (ayB (λx hx=>(ab7 hT x hx).symm) (λid jA=>(Lt id jA).symm)).symm
 have hn:=rV new rfl;let ⟨r,w',g',rU,hp⟩:=aCy hE hr jB hn e1;have SW:iH f us=sV D (iH H us) f:=by
  funext x;unfold sV;rw[EZ us H f x];by_cases h1:x∈us.map (·.1)
  .rw[ax h1,ax ((hD x).2 (.inl h1))]
  .rw[au h1];by_cases h2:x=new
   .rw[ax ((hD x).2 (.inr h2)),EZ us f H x,au h1,h2,hH,hr.Ji hn]
   .rw[au (λh=>by rcases (hD x).1 h with h|h;exact h1 h;exact h2 h)]
 have Jt:=hk r w' g' ((jB.mono hp.fr.le).put hd hp.val) (SW ▸ hp.hr) (SW ▸ hp.fr) (λx hx=>by
  by_cases hu:us= []
  .rw[hp.nil hu]
  .exact hp.ro x (λhe=>hx ⟨he,hu⟩))
 unfold wpOpIn;rw[hi];simp only;rw[ax (BT jB (by rw[ala hT];exact hw))]
 refine ⟨Eg E.P w,?_⟩;rw[Oper.semAt_eq _ _ _ DI];rcases rU with h1|⟨h1,rfl⟩
 .rw[h1];exact Jt
 .rw[h1];exact Jt
def step_skip {ro:cC} {nt:Nat} {all:fD} {T:Tf} {H:Hf} (hi:all[i]? =V o) (hw:kI all.toList o T=V U) (hd:ot nt o.dst=I) (hH:H new=A) (hD:∀x,D x=I↔x=new):
  VJ E ro nt all i o T (λ_=>False) H (λx=>x=new) (λ_=>False) (.dh []) D H:=by
 intro m g f T1 a w K Q hE jB hr hT Lt rV hk;have hn:=rV new rfl;have SW:f=sV D H f:=by
  funext x;unfold sV;by_cases h2:x=new
  .rw[ax ((hD x).2 h2),h2,hH,hr.Ji hn]
  .rw[au (λh=>h2 ((hD x).1 h))]
 have Jt:=hk undef w g (jB.put hd (.dh .nil)) (SW ▸ hr) (SW ▸ Fr.refl g f w) (λ_ _=>rfl)
 unfold wpOpIn;rw[hi];simp only;have hwn:=BT jB (by rw[ala hT];exact hw)
 rw[au (by rw[hwn];simp)]
 exact ⟨Eg E.P w,Jt⟩
def VS (P : Y') (m : Nat) (u : O') (us : jQ) (w : World) (K : Ending -> World -> Prop) : Prop :=
  ∃ d, (Deferred.ofValue u us).run P w = .ok d w /\
    ((∃ k aa, (invoke d.target d.args).run P w = .ok (.enter k aa) w /\ CallsIn U1 m P k aa w K) \/
      (∃ l k tmps aa bo, (invoke d.target d.args).run P w = .ok (.round l k tmps aa bo) w /\ RoundIn U1 m P l k tmps aa bo w K) \/
      (∃ r w', (invoke d.target d.args).run P w = .ok (.value r) w' /\ K (.returned r) w'))
def VS.mono {P:Y'} {m:Nat} {us:jQ} {w:World} {K K':Ending->World->Prop} (h:VS P m u us w K) (hk:∀e w',K e w'->K' e w'):VS P m u us w K':=by
 let ⟨d,h1,h2⟩:=h;refine ⟨d,h1,?_⟩;rcases h2 with ⟨k,aa,q1,q2⟩|⟨l,k,t,aa,bo,q1,q2⟩|⟨r,w',q1,q2⟩
 .exact .inl ⟨k,aa,q1,CallsIn.mono q2 hk⟩
 .exact .inr (.inl ⟨l,k,t,aa,bo,q1,RoundIn.mono q2 hk⟩)
 .exact .inr (.inr ⟨r,w',q1,hk _ _ q2⟩)
def adM (AM:Bool) (u:O'):Ending:=if AM=I then .panicked [{v:=u,recovered:=U}] else .returned u
def p8 (E:Env) (AM:Bool) (fv:SV) (aa:bj) (H:Hf) (nx:Nat) (v:SV) (H':Hf) (nZ:Nat):Prop:=
 ∀(m:Nat) (g:Gh) (w:World) (u:O') (us:gn),fU E g->HR g H w->(∀x,nx<=x->g.ρ x=A)->VR g u fv->ow g us aa->
  VS E.P m u us.toArray w λe w'=>∃r,e=adM AM r/\∃g',VR g' r v/\HR g' H' w'/\Fr g H w g' H' w'/\(∀x,x<nx->g'.ρ x=g.ρ x)/\∀x,nZ<=x->g'.ρ x=A
def asZ {H H':Hf} {g':Gh} (hr:HR g f w) (Ia:∀x o,H x=V o->f x=V o) (aiZ:∀x,nx<=x->g.ρ x=A) (iN:HR g' H' w') (hf:Fr g H w g' H' w') (CK:∀x,x<nx->g'.ρ x=g.ρ x) (hD:∀x,D x=U->x<nx->H' x=H x) (hD2:∀x,D x=U->nx<=x->H' x=A):HR g' (sV D H' f) w'/\Fr g f w g' (sV D H' f) w':=by
 have Ob:∀x,nx<=x->f x=A:=λx hx=>hr.Ji (aiZ x hx)
 have other:∀x o,D x=U->f x=V o->H x=A->∃b c,g.ρ x=V (b,c)/\b<w.heap.size/\OR g w x b c o/\¬YG g H b:=by
  intro x o hd hx hn;let ⟨b,c,q1,q2,q3⟩:=hr.ob x o hx;refine ⟨b,c,q1,q2,q3,λ⟨id,o',c',h1,h2⟩=> ?_⟩
  have:=hr.inj id x o' o b c' c (Ia id o' h1) hx h2 q1;subst this;rw[hn] at h1;simp at h1
 have Qf:∀x o,f x=V o->x<nx:=λx o hx=>by
  by_cases h:nx<=x
  .rw[Ob x h] at hx;simp at hx
  .omega
 have cls:∀x o,sV D H' f x=V o->H' x=V o\/(D x=U/\f x=V o/\H x=A):=by
  intro x o hx;unfold sV at hx;split at hx
  .exact .inl hx
  .rename_i hd;have hd:D x=U:=by simpa using hd
   cases hh:H x with
   |none=>exact .inr ⟨hd,hx,rfl⟩
   |some o'=>
    have:=Ia x o' hh;rw[hx] at this;cases this;exact .inl ((hD x hd (Qf x o hx)).trans hh)
 refine ⟨⟨λx o hx=> ?_,λi j x y b c d hx hy e1 e2=> ?_⟩,⟨hf.os,hf.tape,hf.output,hf.size,hf.le,λb hb hn=>hf.old b hb (λ⟨id,o,c,h1,h2⟩=>hn ⟨id,o,c,Ia id o h1,h2⟩),λb hb hm=> ?_⟩⟩
 .rcases cls x o hx with h1|⟨h1,h2,h3⟩
  .exact iN.ob x o h1
  .let ⟨b,c,q1,q2,q3,q4⟩:=other x o h1 h2 h3;exact ⟨b,c,(CK x (Qf x o h2)).trans q1,Ch q2 hf.size,q3.mono hf.le q1 (hf.old b q2 q4)⟩
 .have aIh:∀p q z z' b c d,H' p=V z->D q=U->f q=V z'->H q=A->g'.ρ p=V (b,c)->g'.ρ q=V (b,d)->False:=by
   intro p q z z' b c d h1 h2 h3 h4 e1 e2;let ⟨b',c',q1,q2,q3,q4⟩:=other q z' h2 h3 h4;rw[CK q (Qf q z' h3),q1] at e2;cases e2;exact q4 (hf.own _ q2 ⟨p,z,c,h1,e1⟩)
  rcases cls i x hx with h1|⟨h1,h2,h3⟩<;>rcases cls j y hy with k1|⟨k1,k2,k3⟩
  .exact iN.inj i j x y b c d h1 k1 e1 e2
  .exact (aIh i j x y b c d h1 k1 k2 k3 e1 e2).elim
  .exact (aIh j i y x b d c k1 h1 h2 h3 e2 e1).elim
  .rw[CK i (Qf i x h2)] at e1;rw[CK j (Qf j y k2)] at e2;exact hr.inj i j x y b c d h2 k2 e1 e2
 .let ⟨x,o,c,hx,e⟩:=hm;rcases cls x o hx with h1|⟨h1,h2,h3⟩
  .let ⟨id,o',c',q1,q2⟩:=hf.own b hb ⟨x,o,c,h1,e⟩;exact ⟨id,o',c',Ia id o' q1,q2⟩
  .rw[CK x (Qf x o h2)] at e;exact ⟨x,o,c,h2,e⟩
def aph {ro:cC} {nt:Nat} {all:fD} {c:Call} {T T1:Tf} {H:Hf} {fv:SV} {aa:bj} {nx m:Nat} {a:Act} (hi:all[i]? =V o) (hw:kI all.toList o T=V I) (gP:o.op= .call c) (hc:BG T c.callee=V fv) (has:gN T c.args.toList=V aa) (jB:FR g nt T1 a.tmps) (hT:∀t∈o.looksAt all,T1 t=T t) (hs:∀(u:O') (us:gn),VR g u fv->ow g us aa->VS E.P (m-1) u us.toArray w KE) (hk:∀e w',KE e w'->∃AM r,e=adM AM r/\(AM=U->K (a.put o.dst r) w')/\(AM=I->Q (.panic [{v:=r,recovered:=U}]) a w')):
  wpOpIn (xz ro) m E.P all Q i K a w:=by
 obtain ⟨x,hx⟩:∃x,c.callee= .value x:=by
  cases Jv:c.callee with
  |value x=>exact ⟨x,rfl⟩
  |_=>rw[Jv] at hc;cases hc
 have aDt:=ab7 hT;rw[gP] at aDt;have hfv:dy T1 x=V fv:=by
  rw[aDt x (by simp[Z',Call.operands,hx])]
  rw[hx] at hc;exact hc
 have hva:gN T1 c.args.toList=V aa:=by
  rw[<-has];exact zq λy hy=>aDt y (by simp[Z',Call.operands,hx];exact .inr (by simpa using hy))
 have hu:=uf jB hfv;have mK:=Cl jB hva;let ⟨d,CP,DJ⟩:=hs (a.eval x) (c.args.toList.map a.eval) hu mK;have SS:(resolve a.eval c o.type).run E.P w= .ok d w:=by
  simp only[resolve,hx];have:c.args.map a.eval=(c.args.toList.map a.eval).toArray:=LY am
  rw[this];exact CP
 have fin:∀e w',KE e w'->(match e,w' with
   | .returned v,Ng=>K (a.put o.dst v) Ng
   | .panicked chain,Ng=>Q (.panic chain) a Ng
   | .outgrown,_=>LetsOut Q):=by
  intro e w' he;obtain ⟨AM,r,rfl,h1,h2⟩:=hk e w' he;cases AM with
  |false=>exact h1 rfl
  |true=>exact h2 rfl
 unfold wpOpIn;rw[hi];simp only;rw[ax (BT jB (by rw[ala hT];exact hw))]
 refine ⟨Eg E.P w,?_⟩;rw[Oper.semAt_eq _ _ _ (λc' h=>by rw[gP] at h;cases h)]
 have hex:(execOp a.eval o).run E.P w=(invoke d.target d.args).run E.P w:=by
  simp only[execOp,gP,P',SS,V']
 rw[hex];rcases DJ with ⟨k,as',h1,h2⟩|⟨l,k,tmps,as',bo,h1,h2⟩|⟨r,w',h1,h2⟩
 .rw[h1];refine ⟨λh=>by simp[xz] at h,?_⟩
  refine CallsIn.mono (F:=xz ro) (show CallsIn (xz ro) (m-1) E.P k as' w _ from h2) ?_;intro e w' he;have:=fin e w' he;cases e<;>exact this
 .rw[h1];refine ⟨λh=>by simp[xz] at h,?_⟩
  refine RoundIn.mono (F:=xz ro) (show RoundIn (xz ro) (m-1) E.P l k tmps as' bo w _ from h2) ?_;intro e w' he;have:=fin e w' he;cases e<;>exact this
 .rw[h1];exact fin _ w' h2
def awR {ro:cC} {nt:Nat} {all:fD} {c:Call} {T:Tf} {H H':Hf} {fv v:SV} {aa:bj} (hi:all[i]? =V o) (hw:kI all.toList o T=V I) (hd:ot nt o.dst=I) (gP:o.op= .call c) (hc:BG T c.callee=V fv) (has:gN T c.args.toList=V aa) (hs:p8 E U fv aa H nx v H' nZ) (hD:∀x,D x=U->x<nx->H' x=H x) (hD2:∀x,D x=U->nx<=x->H' x=A):
  VJ E ro nt all i o T (λx=>H x≠A) H (λx=>nx<=x) (λx=>nx<=x/\x<nZ) v D H':=by
 intro m g f T1 a w K Q hE jB hr hT Lt rV hk;have Ia:∀x y,H x=V y->f x=V y:=λx y hx=>by rw[Lt x (by show H x≠A;rw[hx];simp),hx]
 have AQ:HR g H w:=hr.sub Ia;refine aph (g:=g) (H:=H) (nx:=nx) hi hw gP hc has jB hT (λu us hu mK=>hs (m-1) g w u us hE AQ (λy hy=>rV y hy) hu mK) ?_
 rintro e w' ⟨r,rfl,g',h1,h2,h3,h4,h5⟩;refine ⟨U,r,rfl,λ_=> ?_,λh=>by cases h⟩
 let ⟨q1,q2⟩:=asZ hr Ia (λy hy=>rV y hy) h2 h3 h4 hD hD2
 exact hk r w' g' ((jB.mono h3.le).put hd h1) q1 q2 (λx hx=>by
  by_cases hl:x<nx
  .exact h4 x hl
  .rw[h5 x W,rV x (by show nx<=x;omega)])
end
section
variable {E:Env} {g:Gh} {f:Hf} {w:World}
structure DS where
 T:Tf
 F:Hf
structure Stp where
 dst:cC
 v:SV
 D:Nat->Bool
 H:Hf
def DS.app (s:DS) (u:Stp):DS:=⟨eE s.T u.dst u.v,sV u.D u.H s.F⟩
def nR (us:Nat->Stp) (l:bQ) (p:Nat->Bool) (s:DS):DS:=(l.filter p).foldl (λs j=>s.app (us j)) s
def adf (us:Nat->Stp) (t:Nat) (p q:Nat->Bool):∀(l:bQ) (s s2:DS),s.T t=s2.T t->(∀j∈l,(us j).dst=V t->p j=q j)->(nR us l p s).T t=(nR us l q s2).T t
 | [],s,s2,h,_=>h
 |j::l,s,s2,h,hpq=>by
  have uK:=λs s2 hs=>adf us t p q l s s2 hs (λi hi=>hpq i (fj _ hi))
  have Lu:∀s:DS,(s.app (us j)).T t=if (us j).dst=V t then V (us j).v else s.T t:=λs=>rfl
  unfold nR at uK ⊢;by_cases hl:(us j).dst=V t
  .have:=hpq j am hl
   cases hp:p j
   .rw[hp] at this;simp only[mD,hp,<-this];exact uK s s2 h
   .rw[hp] at this;simp only[mD,hp,<-this,az,IT];exact uK _ _ (by rw[Lu,Lu,ax hl,ax hl])
  .have key:∀s:DS,(s.app (us j)).T t=s.T t:=λs=>by rw[Lu,au hl]
   cases hp:p j<;>cases hq:q j<;>simp only[mD,hp,hq,az,IT,ay,aw]
   .exact uK _ _ h
   .exact uK _ _ (by rw[key];exact h)
   .exact uK _ _ (by rw[key];exact h)
   .exact uK _ _ (by rw[key,key];exact h)
def adg (us:Nat->Stp) (x:Nat) (p q:Nat->Bool):∀(l:bQ) (s s2:DS),s.F x=s2.F x->(∀j∈l,(us j).D x=I->p j=q j)->(nR us l p s).F x=(nR us l q s2).F x
 | [],s,s2,h,_=>h
 |j::l,s,s2,h,hpq=>by
  have uK:=λs s2 hs=>adg us x p q l s s2 hs (λi hi=>hpq i (fj _ hi))
  have Lu:∀s:DS,(s.app (us j)).F x=if (us j).D x=I then (us j).H x else s.F x:=λs=>rfl
  unfold nR at uK ⊢;by_cases hl:(us j).D x=I
  .have:=hpq j am hl
   cases hp:p j
   .rw[hp] at this;simp only[mD,hp,<-this];exact uK s s2 h
   .rw[hp] at this;simp only[mD,hp,<-this,az,IT];exact uK _ _ (by rw[Lu,Lu,ax hl,ax hl])
  .have key:∀s:DS,(s.app (us j)).F x=s.F x:=λs=>by rw[Lu,au hl]
   cases hp:p j<;>cases hq:q j<;>simp only[mD,hp,hq,az,IT,ay,aw]
   .exact uK _ _ h
   .exact uK _ _ (by rw[key];exact h)
   .exact uK _ _ (by rw[key];exact h)
   .exact uK _ _ (by rw[key,key];exact h)
def DS.ext' {s t:DS} (h1:∀u,s.T u=t.T u) (h2:∀k,s.F k=t.F k):s=t:=by
 cases s;cases t;simp only[DS.mk.injEq];exact ⟨funext h1,funext h2⟩
def aDK (l:Array Bool) (i j:Nat) (h:i<l.size) (d:Bool):(l.setIfInBounds i I).getD j d=if j=i then I else l.getD j d:=by
 simp only[vA,afB];by_cases hj:j=i
 .subst hj;simp[h]
 .simp[hj,tu hj]
def direct (i6:fD) (j:Nat):bQ:=((i6[j]?).map Ii).getD []
def AW (i6:fD):Nat->Nat->bQ
 |0,_=> []
 |n+1,j=>direct i6 j++(direct i6 j).flatMap (AW i6 n)
def Ee {i6:fD} {S:Nat->Prop} (hS:∀j,S j->∀i∈direct i6 j,S i):∀(n j:Nat),S j->∀i∈AW i6 n j,S i
 |0,_,_,i,hi=>by simp[AW] at hi
 |n+1,j,hj,i,hi=>by
  simp only[AW,fk,A5] at hi;rcases hi with hi|⟨k,hk,hi⟩
  .exact hS j hj i hi
  .exact Ee hS n k (hS j hj k hk) i hi
def auk {i6:fD} (hS:∀j,S j->∀i∈direct i6 j,S i):∀(n j:Nat),(∀i∈direct i6 j,S i)->∀i∈AW i6 n j,S i
 |0,_,_,i,hi=>by simp[AW] at hi
 |n+1,j,hj,i,hi=>by
  simp only[AW,fk,A5] at hi;rcases hi with hi|⟨k,hk,hi⟩
  .exact hj i hi
  .exact Ee hS n k (hj k hk) i hi
def akM {i6:fD}:i∈Region.ready .any i6 dM↔i<i6.size/\dM.getD i I=U/\∀j∈direct i6 i,dM.getD j U=I:=by
 unfold Region.ready;simp only[uX,asQ,bI,T6];constructor
 .rintro ⟨h1,h2,h3⟩;refine ⟨h1,h2,λj hj=> ?_⟩
  unfold direct at hj;rw[Cj h1] at hj h3;simp only[M8,AY,Ii,dL,uX] at hj h3;obtain ⟨e,⟨he1,he2⟩,rfl⟩:=hj;rw[Array.all_eq_true'] at h3;have:=h3 e (by simpa using he1)
  simpa[he2] using this
 .rintro ⟨h1,h2,h3⟩;refine ⟨h1,h2,?_⟩;rw[Cj h1];simp only[M8,AY];rw[Array.all_eq_true'];intro e he;by_cases hb:Region.binds .any e=I
  .have:=h3 e.on (by
    unfold direct;rw[Cj h1];simp only[M8,AY,Ii,dL,uX];exact ⟨e,⟨by simpa using he,hb⟩,rfl⟩)
   simp[this]
  .simp[hb]
def HR.aaJ (h:HR g f w) (he:w'.heap=w.heap):HR g f w':=
 ⟨λid o ho=>by
  let ⟨b,c,q1,q2,q3⟩:=h.ob id o ho;exact ⟨b,c,q1,by rw[he];exact q2,q3.mono (.refl _) q1 (by rw[he])⟩,h.inj⟩
def Fr.aaJ (he:w'.heap=w.heap) (h1:w'.os=w.os) (h2:w'.tape=w.tape) (h3:w'.output=w.output):Fr g f w g f w':=
 ⟨h1,h2,h3,by rw[he];exact cM _,.refl _,λb _ _=>by rw[he],λ_ _ h=>h⟩
structure Ind (ops:fD) (us:Nat->Stp) (need:Nat->Nat->Prop) (i j:Nat):Prop where
 s1:∀t,(us i).dst=V t->∀o,ops[j]? =V o->t∉o.looksAt ops
 s2:∀t,(us j).dst=V t->∀o,ops[i]? =V o->t∉o.looksAt ops
 s3:∀t,(us i).dst=V t->(us j).dst≠V t
 d:∀x,(us i).D x=I->(us j).D x=U
 n1:∀x,need j x->(us i).D x=U
 n2:∀x,need i x->(us j).D x=U
end
section
variable {E:Env} {g:Gh} {f:Hf} {w:World}
def uE (x:Nat):∀(l:bQ),nN x l=I↔x∈l
 | []=>by simp[nN]
 |y::l=>by
  unfold nN;rw[cx,beq_eq];by_cases h:x=y
  .simp[h]
  .simp only[h,aR,ay,aw,cU,false_or];exact uE x l
def anR:∀(xs:List S'),SL xs=xs.filterMap fun| .tmp t=>V t|_=>A
 | []=>rfl
 |x::xs=>by
  have ih:=anR xs;cases x<;>simp[SL,ih]
def ait (i6:fD) (o:pw):looks i6.toList o=o.looksAt i6:=by
 unfold looks Oper.looksAt;rw[anR];cases hg:o.guard with
 |none=>rfl
 |some p=>
  let ⟨j,b⟩:=p;simp only[GQ,ng];rfl
end
section
variable {E:Env} {g:Gh} {w:World} {nt ac base:Nat} {i6:fD}
end
section
variable {E:Env} {g:Gh} {f:Hf} {w:World} {T:Tf}
end
section
variable {E:Env} {g:Gh} {f:Hf} {w:World}
def UW (F:Fence) (n:Nat) (P:Y') (c:Code) (Q:Exit->Act->World->Prop) (a:Act) (w:World):Prop:=
 ∀(b:Frame) (k:List Item) (cs:List Frame),b.roundOf=F.round->F.fn b.fn->F.room (O cs+1+n)->
  ∃e a' w',Q e a' w'/\ArrivesIn (Machine.fenced P F) P (lone (b.atR a (.code c:: .inLoop c::k)) cs w) b k cs e a' w'
def wpX (F:Fence) (n:Nat) (P:Y') (c:Code) (Q:Exit->Act->World->Prop) (a:Act) (w:World):Prop:=
 match c with
 | .loop b=>UW F n P b Q a w
 |c=>c.wpIn F n P Q a w
inductive ExR (g:Gh):Ex->Exit->Prop
 |normal:ExR g .normal .normal
 |exit (id:_):ExR g (.exit id) (.exit id)
 |ret:ExR g .ret .ret
 |AM {v u:_} (h:VR g u v):ExR g (.AM v) (.panic [{v:=u,recovered:=U}])
structure VI (w w':World):Prop where
 os:w'.os=w.os
 tape:w'.tape=w.tape
 output:w'.output=w.output
 size:w.heap.size<=w'.heap.size
 heap:∀b,b<w.heap.size->w'.heap[b]? =w.heap[b]?
def RV (P:Y') (k:FuncId):Prop:=∃fn,P.funcs[k]? =V fn/\fn.body.isSome=I/\fn.name≠ "runtime.NumGoroutine"
structure Wr (w w':World) (b:Nat) (e:Ey) (kb:jQ):Prop where
 heap:w'.heap[b]? =V (.cells kb e (0,0))
 size:w'.heap.size=w.heap.size
 MN:∀k,k≠b->w'.heap[k]? =w.heap[k]?
 os:w'.os=w.os
 tape:w'.tape=w.tape
 output:w'.output=w.output
structure Nw (w w':World) (e:Ey) (kb:jQ):Prop where
 heap:w'.heap=w.heap.push (.cells kb e (0,0))
 os:w'.os=w.os
 tape:w'.tape=w.tape
 output:w'.output=w.output
def avz (P:Y') (k:FuncId) (sz:Nat):Prop:=
 RV P k/\∀(m:Nat) (w:World) (b off n c i j:Nat) (kw:jQ) (e:Ey),w.heap[b]? =V (.cells kw e (0,0))->off+n*sz<=kw.size->(∀t,t<n*sz->∀v,kw[off+t]? =V v->v.oneCell'=I)->i<j->j<=n->n<=c->
  CallsIn U1 m P k #[.slice (V ⟨b,off,A⟩) n c,.int .i64 i,.int .i64 j] w λr w'=>r= .returned (.slice (V ⟨b,off,A⟩) (n-(j-i)) c)/\∃kb,Wr w w' b e kb/\kb.size=kw.size/\
   (∀t,(t<off+i*sz\/off+n*sz<=t)->kb[t]? =kw[t]?)/\(∀t,t<n*sz-j*sz->kb[off+i*sz+t]? =kw[off+j*sz+t]?)/\∀t,t<j*sz-i*sz->∃v,kb[off+i*sz+(n*sz-j*sz)+t]? =V v/\v.oneCell'=I
def aIY (P:Y') (k:FuncId) (e:Ey) (sz:Nat):Prop:=
 RV P k/\∀(m:Nat) (w:World) (b off n c i vb kP q vc:Nat) (kw LQ:jQ) (ev:Ey),w.heap[b]? =V (.cells kw e (0,0))->w.heap[vb]? =V (.cells LQ ev (0,0))->vb≠b->off+c*sz<=kw.size->kP+q*sz<=LQ.size->
  (∀t,t<n*sz->∀v,kw[off+t]? =V v->v.oneCell'=I)->(∀t,t<q*sz->∀v,LQ[kP+t]? =V v->v.oneCell'=I)->n<=c->n<=1000000->0<q->q<=1000000->i<=n->
  CallsIn U1 m P k #[.slice (V ⟨b,off,A⟩) n c,.int .i64 i,.slice (V ⟨vb,kP,A⟩) q vc] w λr w'=>∃(b' o' c':Nat) (kb:jQ),r= .returned (.slice (V ⟨b',o',A⟩) (n+q) c')/\n+q<=c'/\o'+c'*sz<=kb.size/\
   (∀t,t<(n+q)*sz->kb[o'+t]? =(Dn ((kw.toList.drop off).take (n*sz)) (i*sz) ((LQ.toList.drop kP).take (q*sz)))[t]?)/\((b'=b/\o'=off/\Wr w w' b e kb)\/(b'=w.heap.size/\o'=0/\Nw w w' e kb))
def VL (P:Y') (k:FuncId) (z:Bool):Prop:=
 RV P k/\(∀(m:Nat) (w:World) (p:G Addr) (c:Nat),CallsIn U1 m P k #[.slice p 0 c] w λr w'=>r= .returned (aT z (.tuple #[]) (.slice p 0 c))/\w'.heap=w.heap/\w'.os=w.os/\w'.tape=w.tape/\w'.output=w.output)/\
  ∀(m:Nat) (w:World) (b off c:Nat) (xs:List Int) (kw:jQ) (e:Ey),w.heap[b]? =V (.cells kw e (0,0))->0<O xs->O xs<=4294967295->O xs<=c->(∀t x,xs[t]? =V x->kw[off+t]? =V (.int .i64 x))->
   CallsIn U1 m P k #[.slice (V ⟨b,off,A⟩) (O xs) c] w λr w'=>r= .returned (aT z (.tuple #[]) (.slice (V ⟨b,off,A⟩) (O (mO xs)) c))/\∃w1 kb,Wr w w1 b e kb/\VI w1 w'/\kb.size=kw.size/\
    (∀t,(t<off\/off+O xs<=t)->kb[t]? =kw[t]?)/\∀t x,(D4 z xs)[t]? =V x->kb[off+t]? =V (.int .i64 x)
def L4 (E:Env) (k c:Nat):Prop:=(1048576<=c->VL E.P k (Cz c 1048576))/\(c<1048576->∀ie,E.ty.get (c / 2)=V ie->(c % 2=0->avz E.P k ie.size)/\(c % 2≠0->aIY E.P k (c / 2) ie.size))
def ajR {us:ia} {x:Nat} (h:x∉us.map (·.1)) (F:Hf):iH F us x=F x:=by rw[EZ us F F x,au h]
def ady (us:ia) (new:Nat):Nat->Bool:=λx=>A' (x∈us.map (·.1)\/x=new)
def atx {op:Op} {T:Tf} {r:SV×ia} (h:vf E op T f new=V r):∀c,op≠ .defer c:=by
 intro c e;subst e;cases h
end
section
variable {E:Env} {g:Gh} {f:Hf} {w:World}
variable {Q:Exit->Act->World->Prop}
def abx {nt:Nat} {tm:Tf} {a:Act} {i6:fD} (jB:FR g nt tm a.tmps) (hw:kI i6.toList o tm=V I):adi o (yielded i6 a.tmps)=I:=BT jB hw
def aFU {ro:cC} {i6:fD} {m:Nat} {a:Act} (hi:i6[i]? =V o) (hw:adi o (yielded i6 a.tmps)=I) (h:o.uponIn (xz ro) m E.P a K Q ((o.semAt (xz ro).round a.eval).run E.P w)):wpOpIn (xz ro) m E.P i6 Q i K a w:=by
 unfold wpOpIn;rw[hi];simp only;rw[ax hw];exact ⟨Eg E.P w,h⟩
def ajs (x:Nat):∀(l:bQ),Lf x l=I↔x∈l
 | []=>by simp[Lf]
 |y::l=>by
  unfold Lf;rw[cx,beq_eq];by_cases h:x=y
  .simp[h]
  .simp only[h,aR,ay,aw,cU,false_or];exact ajs x l
def ab8 {ol:bQ} {sa:Array Nat} (hs:sa.toList=ol):∀{ms:List Hs} {es:iU},kW g ms es->kW g (ms.filter λe=> !sa.contains e.born) (rH ol es)
 |_,_,.nil=>.nil
 |_,_,.cons (m:=m) (x:=x) (ms:=ms) (xs:=xs) hd ht=>by
  have ih:=ab8 hs ht;have hc:sa.contains m.born=Lf x.2.2 ol:=by
   rw[oS,ajs,Array.contains_iff_mem,<-Array.mem_toList_iff,hs,hd.2.2]
  unfold rH at ih ⊢;rw[mD,mD,hc];cases Lf x.2.2 ol with
  |true=>exact ih
  |false=>exact .cons hd ih
def kW.aKk {es:iU} (h:kW g ms es):ms= []↔es= []:=by cases h<;>simp
def kW.mem {es:iU} (h:kW g ms es):∀m∈ms,∃x∈es,Sp g m x:=by
 intro m hm;induction h with
 |nil=>simp at hm
 |cons hd ht ih=>
  rcases cU.1 hm with rfl|hm
  .exact ⟨_,am,hd⟩
  .let ⟨x,hx,h⟩:=ih hm;exact ⟨x,fj _ hx,h⟩
def anv {ol:bQ} (hs:sa.toList=ol) {ms:Array Hs} {es:iU} (h:kW g ms.toList es):kW g (leftOf ms sa).toList (rH ol es):=by
 have:=ab8 hs h;unfold leftOf;rw[Array.toList_filter];exact this
def asv {since last c:Nat} {ol:bQ} {es:iU} (h:iterM since ol last c es=I):(∀e∈es,e.2.2<since)/\since<=last:=by
 unfold iterM at h;rw[bI] at h;refine ⟨λe he=> ?_,(bO _ _).1 h.2⟩
 exact (bO _ _).1 (jR.1 h.1 e he)
def alm {b:Nat}:∀{ms:List Hs} {es:iU},kW g ms es->∀{v:SV},Hj b es=V v->∃e,ms.find? (·.born==b)=V e/\VR g (.tuple #[e.key,e.val]) v
 |_,_,.nil,v,h=>by cases h
 |_,_,.cons (m:=m) (x:=x) (ms:=ms) (xs:=es) hd ht,v,h=>by
  unfold Hj at h;rw[cx] at h;split at h
  .rename_i hb;have hb:=(f9 _ _).1 hb;cases h;refine ⟨m,by simp[hd.2.2,hb],.dh (.cons hd.1 (.cons hd.2.1 .nil))⟩
  .rename_i hb;have hb:¬x.2.2=b:=λe=>hb ((f9 _ _).2 e)
   let ⟨e,h1,h2⟩:=alm ht h;refine ⟨e,?_,h2⟩;rw[avk];have:(m.born==b)=U:=by rw[hd.2.2];simpa using hb
   rw[this];exact h1
def aau:∀{l:bQ} {b:Nat},Qj l=V b->l.getLast? =V b
 | [],b,h=>by cases h
 | [a],b,h=>by cases h;rfl
 |a::c::l,b,h=>by
  have:=aau (l:=c::l) h;rw[List.getLast?_cons_cons];exact this
end
section
variable {E:Env} {g:Gh} {f:Hf} {w:World}
end
section
section
variable {F:Fence} {n:Nat} {P:Y'} {Q:Exit->Act->World->Prop} {a:Act} {w:World} {c:Code}
def akZ (h:c.wpIn F n P (Exit.then (UW F n P c Q) Q) a w):UW F n P c Q a w:=by
 intro b k cs CK hb hr;let ⟨e,a₁,w₁,hq,yE⟩:=h b (.inLoop c::k) cs CK hb hr;cases e with
 |normal=>
  let ⟨e₂,a₂,w₂,aST,aKB⟩:=hq b k cs CK hb hr;exact ⟨e₂,a₂,w₂,aST,.of_steps (StepsIn.trans yE (.one (fenced_calm hb hr rfl) stepR_inLoop)) aKB⟩
 |exit id=>exact ⟨_,a₁,w₁,hq,.pass (x:=.inLoop c) rfl (λ_ _=>.inl am) yE⟩
 |goto l=>exact ⟨_,a₁,w₁,hq,.pass (x:=.inLoop c) rfl (λ_ _=>.inl am) yE⟩
 |ret=>exact ⟨_,a₁,w₁,hq,.pass (x:=.inLoop c) rfl (λ_ _=>.inl am) yE⟩
 |panic ch=>exact ⟨_,a₁,w₁,hq,.pass (x:=.inLoop c) rfl (λ_ _=>.inl am) yE⟩
 |outgrown=>exact ⟨_,a₁,w₁,hq,.pass (x:=.inLoop c) rfl (λ_ _=>.inl am) yE⟩
def aa4 (h:UW F n P c Q a w):(Code.loop c).wpIn F n P Q a w:=λb k cs CK hb hr=>
 let ⟨e,a',w',hq,yE⟩:=h b k cs CK hb hr
 ⟨e,a',w',hq,.of_steps (.one (fenced_calm hb hr rfl) stepR_loop) yE⟩
def tJ (h:wpX F n P c Q a w):c.wpIn F n P Q a w:=by
 cases c<;>first|exact h|exact aa4 h
end
variable {E:Env} {g:Gh} {f:Hf} {w:World}
def okL {a b:Code} (h:codeOk (.seq a b)=I):codeOk a=I:=by
 have h:(codeOk a&&codeOk b)=I:=h;rw[bI] at h;exact h.1
def okR {a b:Code} (h:codeOk (.seq a b)=I):codeOk b=I:=by
 have h:(codeOk a&&codeOk b)=I:=h;rw[bI] at h;exact h.2
def aay (id i:Nat):leave id (.exit i)=if i=id then .normal else .exit i:=by
 show aT (Cz i id) Ex.normal (.exit i)=_;rw[cx,beq_eq];by_cases h:i=id<;>simp[h]
end
section
variable {E:Env} {g:Gh} {f:Hf} {w:World}
def aAo {x:SV} (h:Yf E x=I):∃k fi ca fn,x= .fn (.func k) fi ca/\E.fn.get k=V fn/\fn.body.isSome=I:=by
 cases x with
 |fn f fi ca=>
  cases f with
  |func k=>
   have h: @Option.rec Func (λ_=>Bool) U (λfn=>fn.body.isSome) (E.fn.get k)=I:=h
   cases hf:E.fn.get k with
   |none=>rw[hf] at h;cases h
   |some fn=>rw[hf] at h;exact ⟨k,fi,ca,fn,rfl,hf,h⟩
  |_=>cases h
 |_=>cases h
def aei {P:Y'} (hf:P.funcs[k]? =V fn) (hb:fn.body.isSome=I) (ge:jQ) (w:World):
  ((callFunc k ge).run P w= .ok .numGoroutine w/\fn.name= "runtime.NumGoroutine")\/(callFunc k ge).run P w= .ok (.enter k ge) w:=by
 have h2:fn.body≠A:=by cases hfb:fn.body<;>simp_all
 by_cases h:fn.name= "runtime.NumGoroutine"
 .left;exact ⟨by simp[callFunc,hf,h,Sem.run],h⟩
 .right;simp[callFunc,hf,h,h2,Sem.run]
def aii {P:Y'} (k:FuncId) (fi ca us:jQ) (w:World):(Deferred.ofValue (.func (.func k) fi ca) us).run P w= .ok {target:=.fn (.func k) ca,args:=fi++us} w:=rfl
end
section
variable {E:Env} {g:Gh} {f:Hf} {w:World}
def HR.grow (h:HR g f w) (oG:w.heap.size<=w'.heap.size) (hs:∀b,b<w.heap.size->w'.heap[b]? =w.heap[b]?):HR g f w':=
 ⟨λid o ho=>let ⟨b,c,q1,q2,q3⟩:=h.ob id o ho;⟨b,c,q1,Ch q2 oG,q3.mono (.refl _) q1 (hs b q2)⟩,h.inj⟩
def SJ (a:Act):NR->Go.Sem O'
 | .tmp t=>pure (a.tmps.getD t undef)
 | .cell k t=>do loadVar t (<-asAddr (a.tmps.getD k undef))
def ann (hE:fU E g) (h:HR g f w) {nt:Nat} {T:Tf} {a:Act} (jB:FR g nt T a.tmps) {x:SV} (hx:Uw E T f rv=V x):∃v,(SJ a rv).run E.P w= .ok v w/\VR g v x:=by
 cases rv with
 |tmp t=>exact ⟨_,rfl,jB.tm t x hx⟩
 |cell k t=>
  let ⟨y,hy,hl⟩:=ak (show aA (T k) (sy E f t)=V x from hx);have hu:=jB.tm k y hy;let ⟨v,hv,hvr⟩:=aad hE h hu hl;let ⟨q,h1,_⟩:=ak hl;obtain rfl:=so h1;refine ⟨v,?_,hvr⟩;generalize hz:a.tmps.getD k undef=z at hu hv;cases hu with
  |ptr hρ=>
   simp only[Instr.loadAt,Pk,P',X',V'] at hv;simp only[SJ,hz,asAddr,P',X',V'];exact hv
def ac7 (hE:fU E g) (h:HR g f w) {nt:Nat} {T:Tf} {a:Act} (jB:FR g nt T a.tmps):∀{rvs:List NR} {xs:bj},Bo E T f rvs=V xs->∃vs,(rvs.mapM (SJ a)).run E.P w= .ok vs w/\ow g vs xs
 | [],xs,hx=>by cases hx;exact ⟨[],am,.nil⟩
 |rv::rvs,xs,hx=>by
  let ⟨x,l,h1,h2,hx⟩:=bV (show cq (Uw E T f rv) (Bo E T f rvs) (λv l=>V (v::l))=V xs from hx)
  cases hx;let ⟨v,FC,Jp⟩:=ann hE h jB h1;let ⟨vs,hs1,hs2⟩:=ac7 hE h jB h2;refine ⟨v::vs,?_,.cons Jp hs2⟩;rw[asV];simp only[P'];rw[FC];simp only[V'];rw[hs1];simp
def ahD (hE:fU E g) (h:HR g f w) {nt:Nat} {T:Tf} {a:Act} (jB:FR g nt T a.tmps) {xs:bj} (hx:Bo E T f fn.results.toList=V xs):∃v,(results fn a.tmps).run E.P w= .ok v w/\VR g v (oneOf xs):=by
 let ⟨vs,h1,h2⟩:=ac7 hE h jB hx;refine ⟨if h:vs.toArray.size=1 then vs.toArray[0] else .tuple vs.toArray,?_,?_⟩
 .have e:∀f:NR->Go.Sem O',(∀x,f x=SJ a x)->fn.results.mapM f=fn.results.mapM (SJ a):=λf hf=>by rw[funext hf]
  unfold results;rw[e _ (λx=>by cases x<;>rfl)]
  rw[<-Array.toArray_toList (xs:=fn.results),List.mapM_toArray];simp only[P',Sem.run_map];rw[h1];simp
 .cases h2 with
  |nil=>exact .dh (by simpa using .nil)
  | @cons v x vs' xs' hv ht=>
   cases ht with
   |nil=>simpa[oneOf] using hv
   | @cons v2 x2 vs2 xs2 Jp ht2=>
    have:¬(v::v2::vs2).toArray.size=1:=by simp
    rw[dif_neg this];exact .dh (by simpa using .cons hv (.cons Jp ht2))
def akS:∀(vs:bj) (i:Nat) (t:M3) (j:Nat),(setArgs vs i t).get j=if i<=j/\j<i+O vs then vs[j-i]? else t.get j
 | [],i,t,j=>by
  have:¬(i<=j/\j<i+O ([]:bj)):=by simp
  rw[au this];rfl
 |v::vs,i,t,j=>by
  have e:setArgs (v::vs) i t=setArgs vs (i+1) (t.set i (V v)):=rfl;rw[e,akS vs (i+1) _ j,Tr.apE];by_cases h1:j=i
  .subst h1;rw[au W,ax rfl,ax am]
   simp
  .by_cases h2:i+1<=j/\j<i+1+O vs
   .rw[ax h2,ax ap]
    have:j-i=(j-(i+1))+1:=by omega
    rw[this,uW]
   .rw[au h2,au h1,au ap]
def FR.args {us:gn} {aa:bj} (h:ow g us aa) {nt:Nat} (hn:O aa<=nt):FR g nt (setArgs aa 0 .nil).get (us.toArray++Array.replicate (nt-us.toArray.size) undef):=by
 have hl:=h.length;refine ⟨ap,λt x hx=> ?_⟩
 rw[akS] at hx;split at hx
 .rename_i hc;let ⟨v,h1,h2⟩:=h.get hx;have cT:t<O us:=by omega
  have e:(us.toArray++Array.replicate (nt-us.toArray.size) undef).getD t undef=v:=by
   rw[vA,M5 (by simpa using cT)]
   simp only[Nat.sub_zero] at h1;simp[h1]
  rw[e];exact h2
 .cases hx
end
section
variable {E:Env} {g:Gh} {f:Hf} {w:World}
end
end Go.bM
end
