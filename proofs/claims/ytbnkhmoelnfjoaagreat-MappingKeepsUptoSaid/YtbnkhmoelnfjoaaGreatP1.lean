/- Part. -/
import Derived.WalkKit
import Derived.RangeFuncLeaves
import Derived.OrdersIn
import Derived.WalkLawsBesides
import Derived.Great.BuildSlice
import Derived.Deep.AppendSrc
import Derived.Laws.CopyRow
import Derived.Laws.AppendOwn
import Derived.Great.FillDense
import Derived.Laws.MakeOwn
import Derived.MapKept
import Derived.RangeFuncCalls
set_option linter.all false
noncomputable section
namespace Go.bX
def kV:=@Option.some.inj
def qv:=@of_decide_eq_true
def tN:=@List.append_nil
def OD:=@List.cons.inj
def aH:=@if_pos
def aL:=@if_neg
def bN:=@congrArg
def v8:=@Nat.le_of_eq
def jj:=@Nat.le_trans
def F0:=@of_decide_eq_false
def OF:=@Bool.false_ne_true
def yE:=@List.map_take
def D1:=@List.map_drop
def wc:=@List.pairwise_cons
def cH:=@List.mem_cons
def kr:=@List.length_cons
def aod:=@List.range_succ_eq_map
def mD:=@List.filter_cons
def rU:=@decide_eq_true
def DR:=@List.map_map
def AX:=@decide_eq_false
def jc:=@List.map_cons
def nh:=@Array.getElem?_eq_some_iff
def Ic:=@Array.getElem?_modify
def DQ:=@Ne.symm
def bY:=@List.getElem?_eq_some_iff
def nU:=@Array.getElem?_eq_getElem
def Ib:=@Option.map_some
def dI:=@List.getElem?_eq_getElem
def dg:=@Nat.le_refl
def cO:=@List.mem_map
def OE:=@Nat.eq_zero_or_pos
def ng:=@Nat.add_zero
def YV:=@Array.getElem?_setIfInBounds
def nT:=@Nat.sub_self
def rT:=@List.getElem?_cons_succ
def iJ:=@List.all_eq_true
def iX:=@List.length_drop
def yD:=@Nat.sub_mul
def wa:=@List.length_eq_zero_iff
def fa:=@List.getElem?_drop
def oE:=@List.mem_of_mem_drop
def fU:=@Nat.add_assoc
def eN:=@List.getElem?_take
def lx:=@Array.getElem?_toList
def OC:=@List.getElem_of_mem
def rS:=@List.getElem_mem
def uE:=@List.map_nil
def Ia:=@Array.getElem?_append_left
def H9:=@List.getElem?_toArray
def OB:=@Nat.min_def
def dR:=@List.length_take
def qH:=@List.getElem?_append
def fB:=@Nat.min_eq_left
def cA:=@Nat.zero_add
def OA:=@Array.getElem?_eq_none
def mC:=@Nat.lt_of_lt_of_le
def bF:=@Bool.and_eq_true
def yC:=@List.range'_succ
def Oz:=@List.range_eq_range'
def jX:=@decide_eq_true_eq
def uD:=@Array.ext'
def gR:=@Bool.true_and
def mB:=@List.map_append
def DP:=@List.map_set
def gE:=@List.mem_append_left
def iz:=@List.mem_append_right
def ez:=@List.mem_singleton
def lV:=@Nat.zero_mul
def rR:=@List.drop_zero
def fO:=@List.mem_cons_of_mem
def nS:=@List.length_map
def kq:=@List.take_of_length_le
def lu:=@List.append_assoc
def nR:=@List.getElem?_append_left
def jt:=@List.mem_cons_self
def nf:=@List.getElem?_append_right
def gD:=@Nat.add_mul
def kL:=@Bool.and_eq_true_iff
def pE:=@Bool.or_eq_true
def DO:=@List.nodup_append
def v7:=@Option.map_eq_some_iff
def YU:=@List.mem_or_eq_of_mem_set
def nc:=@List.length_set
def yB:=@List.cons_append
def eR:=@List.mem_append
def jW:=@List.nil_append
def YT:=@List.Sublist.append_left
def YS:=@List.sublist_append_right
def cT:=@List.mem_of_getElem?
def kK:=@Nat.mul_le_mul_right
def oD:=@List.take_take
def qG:=@List.mem_of_mem_take
def qF:=@List.flatten_cons
def YR:=@List.take_left
def YQ:=@List.drop_left
def DN:=@List.take_append_drop
def Oy:=@List.nil_sublist
def lr:=@List.mem_filter
def Ox:=@Option.isSome_iff_exists
def nA:=@Classical.byContradiction
def sq:=@Option.ne_none_iff_exists'
def xC:=@Nat.lt_of_not_le
def AE:=@List.length_nil
def KD:=@Array.length_toList
def tV:=@List.drop_drop
def xB:=@Nat.le_succ
def px:=@List.nodup_cons
def KC:=@List.filter_append
def xA:=@List.filter_congr
def so:=@List.filter_eq_nil_iff
def sn:=@List.eq_nil_of_length_eq_zero
def S2:=@List.eq_nil_iff_forall_not_mem
def mh:=@Array.getD_eq_getD_getElem?
def tU:=@List.append_of_mem
def vE:=@List.filter_eq_self
def agz:=@List.length_erase_of_mem
def S1:=@List.mem_range
def xz:=@Array.getElem?_replicate
def aB:=@if_true
def D2:=@List.foldl_cons
def gO:=@List.length_append
def tT:=@List.mem_flatMap
def xy:=@Nat.le_add_right
def qK:=@Nat.zero_le
def KB:=@Option.some.injEq
def lz:=@List.getElem?_map
def xx:=@List.take_length
def tS:=@List.drop_take
def tR:=@List.length_replicate
def pw:=@List.getElem?_set_self
def vD:=@List.set_set
def xw:=@List.set_append_right
def qJ:=@List.drop_eq_getElem_cons
def vC:=@List.take_add_one
def pt:=@Nat.one_mul
def D0:=@List.take_length_add_append
def S0:=@List.take_succ_cons
def agy:=@List.drop_length_add_append
def DZ:=@List.take_left'
def DY:=@List.take_zero
def SZ:=@List.mapM_cons
def pr:=@List.drop_of_length_le
def qI:=@beq_iff_eq
def au:=@Option.bind_some
def xv:=@List.ext_getElem?
def tQ:=@List.getElem?_eq_none
def AD:=@Nat.add_comm
def tP:=@Nat.le_of_ble_eq_true
def SY:=@List.Sublist.refl
def agx:=@List.take_append_of_le_length
def agw:=@List.drop_append_of_le_length
def SX:=@List.append_eq_nil_iff
def DX:=@Nat.le_zero
def SW:=@Int.ofNat.inj
def SU:=@List.replicate_succ
def xu:=@UInt8.lt_irrefl
def KA:=@UInt8.not_lt
def aX:=@decide_false
def aC:=@Bool.false_eq_true
def aA:=@if_false
def aU:=@decide_true
def hZ:=@Bool.not_false
def du:=@Bool.not_true
def gf:=@Bool.false_and
def kf:=@Bool.eq_false_or_eq_true
def jg:=@bne_self_eq_false
def tO:=@List.all_cons
def ny:=@Bool.and_self
def AB:=@Bool.and_false
def DW:=@List.take_succ
def Kz:=@Option.toList_some
def SS:=@ByteArray.size_append
def hY:=@beq_self_eq_true
def ly:=@Bool.eq_iff_iff
def Ky:=@decide_eq_decide
def SR:=@beq_false_of_ne
def SQ:=@List.length_pos_iff
def xt:=@List.getElem?_set_ne
def SP:=@List.getElem?_of_mem
def SN:=@Int.toNat_of_nonneg
def SM:=@List.getLast_mem
def Kx:=@Int.toNat_natCast
def DV:=@List.map_congr_left
def vB:=@List.getElem?_cons_zero
def agv:=@List.getLast?_eq_getElem?
def SL:=@List.singleton_append
def Kw:=@Option.getD_none
def xr:=@Option.getD_some
def oB:=@List.mem_range'_1
def mL:=@List.exists_mem_of_ne_nil
def SK:=@Nat.testBit_or
def agu:=@Nat.testBit_mod_two_pow
def Kv:=@List.getD_eq_getElem?_getD
def AA:=@List.ne_nil_of_mem
def DU:=@Int.ofNat_eq_natCast
def SJ:=@Option.map_none
inductive SI where
 |lit (n:Int)
 deriving Inhabited
def SI.ev (η:Nat->Int):SI->Int
 | .lit n=>n
def gI:IntKind->IntKind->Bool
 | .i8,.i8| .i16,.i16| .i32,.i32| .i64,.i64| .u8,.u8| .u16,.u16| .u32,.u32| .u64,.u64=>true
 |_,_=>false
def GA:Int->Int->Bool
 | .ofNat a,.ofNat b=>Nat.beq a b
 | .negSucc a,.negSucc b=>Nat.beq a b
 |_,_=>false
def Aj:Int->Int->Bool
 | .ofNat a,.ofNat b=>Nat.ble (a+1) b
 | .negSucc _,.ofNat _=>true
 | .ofNat _,.negSucc _=>false
 | .negSucc a,.negSucc b=>Nat.ble (b+1) a
def SI.eqb:SI->SI->Bool
 | .lit a,.lit b=>GA a b
inductive Cp where
 |k (n:Nat)
 |u (e:TypeId)
 deriving Inhabited
inductive SV where
 |bool (b:Bool)
 |int (k:IntKind) (e:SI)
 |str (s:ByteArray)
 |ptr (id off:Nat)
 |qe
 |sl (id off n:Nat) (cap:Cp)
 |sle
 |dE
 |mp (id:Nat)
 |mu
 |fn (f:Fn) (first eG:List SV)
 |pd
 |agg (cs:List SV)
 |cS (vs:List SV)
 |undef
 deriving Inhabited
inductive Tr (J:Type) where
 |nil
 |node (l:Tr J) (v:Option J) (r:Tr J)
 deriving Inhabited
@[reducible] def aQ {J:Type} (b:Bool) (x y:J):J:= @Bool.rec (λ_=>J) y x b
def Tr.get {J:Type} (t:Tr J):Nat->Option J:=
 @Tr.rec J (λ_=>Nat->Option J) (λ_=>none) (λ_ v _ gl gr i=> @Bool.rec (λ_=>Option J) (@Bool.rec (λ_=>Option J) (gr (Nat.sub (Nat.div i 2) 1)) (gl (Nat.div i 2)) (Nat.beq (Nat.mod i 2) 1)) v (Nat.beq i 0)) t
def Tr.IF {J:Type} (n:Nat):Tr J->Nat->Option J->Tr J:=
 @Nat.rec (λ_=>Tr J->Nat->Option J->Tr J) (λt _ _=>t) (λ_ ih t i x=>
  @Tr.rec J (λ_=>Tr J)
   (@Bool.rec (λ_=>Tr J) (@Bool.rec (λ_=>Tr J) (.node .nil none (ih .nil (Nat.sub (Nat.div i 2) 1) x)) (.node (ih .nil (Nat.div i 2) x) none .nil) (Nat.beq (Nat.mod i 2) 1)) (.node .nil x .nil) (Nat.beq i 0))
   (λl v r _ _=> @Bool.rec (λ_=>Tr J) (@Bool.rec (λ_=>Tr J) (.node l v (ih r (Nat.sub (Nat.div i 2) 1) x)) (.node (ih l (Nat.div i 2) x) v r) (Nat.beq (Nat.mod i 2) 1)) (.node l x r) (Nat.beq i 0)) t) n
def Tr.set {J:Type} (t:Tr J) (i:Nat) (x:Option J):Tr J:=Tr.IF (Nat.succ i) t i x
inductive SO where
 |cells (e:TypeId) (cs:List SV)
 |map (es:List (SV×SV×Nat)) (clock:Nat)
 |nF (s:ByteArray) (pos:Nat)
 |mapIter (map:Option Nat) (since:Nat) (seen:List Nat) (aNq:Nat)
 |dfr
 |ro (cs:List SV)
 deriving Inhabited
structure FL where
 type:TypeId
 off:Nat
 named:Bool
inductive UD where
 |bool|int (k:IntKind)|string|pointer|slice (e:TypeId)|array (n:Nat) (e:TypeId)|map (k e:TypeId)|struct (fs:List FL)|func|interface|other
 deriving Inhabited
structure TI where
 desc:UD
 size:Nat
 bytes:Nat
 zero:List SV
 comparable:Bool
 deriving Inhabited
structure Env where
 P:Program
 ty:Tr TI
 fn:Tr Func
 lt:List (SI×SI×Bool)
 eq:List (SI×SI×Bool)
 done:List (Nat×SV):= []
 join:List Nat:= []
 wh:List (Nat×Nat):= []
 Du:List Nat:= []
 stop:List Nat:= []
def CF (E:Env):SI->SI->Option Bool
 | .lit a,.lit b=>some (Aj a b)
def eqI (E:Env):SI->SI->Option Bool
 | .lit x,.lit y=>some (GA x y)
def nJ {J:Type} (P:Program):Sem J->Option J
 | .pure a=>some a
 | .program k=>nJ P (k P)
 |_=>none
mutual
def ue:Value->SV
 | .bool b=>.bool b
 | .int k n=>.int k (.lit n)
 | .string s=>.str s
 | .pointer none=>.qe
 | .slice none 0 0=>.dE
 | .map none=>.mu
 | .nilFunc=>.pd
 | .agg ⟨cs⟩=>aQ (cs.all Value.oneCell') (.agg (rM cs)) .undef
 | .tuple ⟨cs⟩=>.cS (rM cs)
 |_=>.undef
def rM:List Value->List SV
 | []=> []
 |v::vs=>ue v::rM vs
end
abbrev Hp:=Tr SO
abbrev Hf:=Nat->Option SO
abbrev Up:=Nat×Option SO
structure Hs where
 hp:Hp
 nx:Nat
 lg:List Nat
 deriving Inhabited
abbrev Tf:=Nat->Option SV
abbrev ji:=List (SV×SV×Nat)
abbrev gq:=Option (SV×List Up)
abbrev aY:=List SV
abbrev br:=List Nat
abbrev dQ:=List Up
abbrev dd:=List Oper
abbrev dF:=Array Oper
abbrev eh:=Option SV
abbrev bP:=Option Nat
abbrev fu:=List Value
abbrev ig:=Array Value
abbrev de:=Tr SV
def cE (tm:Tf):Operand->eh
 | .tmp t=>tm t
 | .const v=>some (ue v)
 | .global _=>none
 | .func f=>some (.fn (.func f) [] [])
def SV.cells (x:SV):Option aY:=match x with
 | .bool b=>some [.bool b]
 | .int k e=>some [.int k e]
 | .str s=>some [.str s]
 | .ptr i o=>some [.ptr i o]
 | .qe=>some [.qe]
 | .sl a b c d=>some [.sl a b c d]
 | .sle=>some [.sle]
 | .dE=>some [.dE]
 | .mp i=>some [.mp i]
 | .mu=>some [.mu]
 | .fn f a c=>some [.fn f a c]
 | .pd=>some [.pd]
 | .agg cs=>some cs
 |_=>none
def l5 (d:UD):Bool:=match d with
 | .array _ _=>true
 | .struct _=>true
 |_=>false
def Vg:SI->bP
 | .lit (.ofNat n)=>some n
 |_=>none
def atn (x:SV):Option (Nat×Nat×Nat×Cp):=match x with
 | .sl i o n c=>some (i,o,n,c)
 |_=>none
def kX (x:SV):bP:=match x with
 | .int _ e=>Vg e
 |_=>none
def oU (x:SV):Option Bool:=match x with
 | .bool b=>some b
 |_=>none
def intOf (x:SV):Option (IntKind×SI):=match x with
 | .int k e=>some (k,e)
 |_=>none
def strOf (x:SV):Option ByteArray:=match x with
 | .str s=>some s
 |_=>none
def vd (x:SV):Option (Nat×Nat):=match x with
 | .ptr i o=>some (i,o)
 |_=>none
def G9 (x:SV):Option aY:=match x with
 | .agg cs=>some cs
 |_=>none
def OI (x:SV):Option aY:=match x with
 | .cS cs=>some cs
 |_=>none
def atO (x:SV):bP:=match x with
 | .mp i=>some i
 |_=>none
def Vi (x:SV):bP:=match x with
 | .sl _ _ n _=>some n
 | .sle=>some 0
 | .dE=>some 0
 |_=>none
def Vj (x:SV):Bool:=match x with
 | .sl _ _ _ _=>true
 | .sle=>true
 | .dE=>true
 |_=>false
def PA (x:SV):eh:=match x with
 | .ptr i o=>some (.ptr i o)
 | .fn f a c=>some (.fn f a c)
 |_=>none
def ij (i:TI) (cs:aY) (off:Nat):eh:=
 aQ (l5 i.desc) (aQ (Nat.ble (Nat.add off i.size) cs.length) (some (.agg ((cs.drop off).take i.size))) none) (cs[off]?)
def eK (cs:aY) (off:Nat) (xs:aY):aY:=cs.take off++xs++cs.drop (Nat.add off xs.length)
def az {J γ:Type} (x:Option J) (f:J->Option γ):Option γ:= @Option.rec J (λ_=>Option γ) none f x
def bT {J O γ:Type} (x:Option J) (y:Option O) (f:J->O->Option γ):Option γ:= @Option.rec J (λ_=>Option γ) none (λa=> @Option.rec O (λ_=>Option γ) none (f a) y) x
def rP {J O δ γ:Type} (x:Option J) (y:Option O) (z:Option δ) (f:J->O->δ->Option γ):Option γ:=az x λa=>bT y z λb c=>f a b c
def andThen (r:Option Bool) (k:Option Bool):Option Bool:=
 match r with
 |some true=>k
 |r=>r
def GU (E:Env) (eq:TypeId->SV->SV->Option Bool) (xs ys:aY):List FL->Option Bool
 | []=>some true
 |f::fs=>aQ f.named (az (E.ty.get f.type) λi=>bT (ij i xs f.off) (ij i ys f.off) λx y=>andThen (eq f.type x y) (GU E eq xs ys fs)) none
def arv (x y:SV):Option Bool:=bT (oU x) (oU y) λa b=>some (a==b)
def aKP (E:Env) (x y:SV):Option Bool:=bT (intOf x) (intOf y) λa b=>aQ (gI a.1 b.1) (eqI E a.2 b.2) none
def sg:List UInt8->List UInt8->Bool
 | [],[]=>true
 |a::l,b::m=>Nat.beq a.toNat b.toNat&&sg l m
 |_,_=>false
def Dk (a b:ByteArray):Bool:=sg a.data.toList b.data.toList
def eqStr (x y:SV):Option Bool:=bT (strOf x) (strOf y) λa b=>some (Dk a b)
def alC:SV->SV->Option Bool
 | .qe,.qe=>some true
 | .qe,.ptr _ _=>some false
 | .ptr _ _,.qe=>some false
 |_,_=>none
def avk:SV->SV->Option Bool
 | .dE,.dE=>some true
 | .dE,.sl _ _ _ _=>some false
 | .sl _ _ _ _,.dE=>some false
 |_,_=>none
def alD:SV->SV->Option Bool
 | .mu,.mu=>some true
 | .mu,.mp _=>some false
 | .mp _,.mu=>some false
 |_,_=>none
def avn:SV->SV->Option Bool
 | .pd,.pd=>some true
 | .pd,.fn _ _ _=>some false
 | .fn _ _ _,.pd=>some false
 |_,_=>none
def asd (x y:SV):Option (aY×aY):=bT (G9 x) (G9 y) λxs ys=>some (xs,ys)
def avj (E:Env) (eq:TypeId->SV->SV->Option Bool) (t:TypeId) (fs:List FL) (x y:SV):Option Bool:=az (asd x y) λp=>aQ (E.P.stoodInHeld t) none (GU E eq p.1 p.2 fs)
def eqD (d:UD):Env->(TypeId->SV->SV->Option Bool)->TypeId->SV->SV->Option Bool:=match d with
 | .bool=>λ_ _ _ x y=>arv x y
 | .int _=>λE _ _ x y=>aKP E x y
 | .string=>λ_ _ _ x y=>eqStr x y
 | .pointer=>λ_ _ _ x y=>alC x y
 | .slice _=>λ_ _ _ x y=>avk x y
 | .map _ _=>λ_ _ _ x y=>alD x y
 | .struct fs=>λE eq t x y=>avj E eq t fs x y
 | .func=>λ_ _ _ x y=>avn x y
 |_=>λ_ _ _ _ _=>none
def eqT (E:Env) (n:Nat):TypeId->SV->SV->Option Bool:=
 @Nat.rec (λ_=>TypeId->SV->SV->Option Bool) (λ_ _ _=>none) (λ_ eq t x y=>az (E.ty.get t) λi=>eqD i.desc E eq t x y) n
def isConst:Operand->Bool
 | .const _=>true
 |_=>false
def avm (E:Env) (t:TypeId) (ox oy:Operand) (x:SV):Bool:=
 match x with
 | .agg _=> !E.P.eqGuardType E.P.depth t
 |_=>true
def GS (E:Env) (t:TypeId) (ox oy:Operand) (x y:SV):Option Bool:=aQ (avm E t ox oy x) (eqT E 20 t x y) none
def kZ (neg:Bool) (r:Option Bool):eh:=az r λb=>some (.bool (aQ neg (!b) b))
def Gl (r:Option Value):eh:=az r λv=>some (ue v)
def XB (E:Env) (op:BinOp) (t:TypeId) (k k':IntKind):SI->SI->eh
 | .lit m,.lit n=>Gl (nJ E.P (binOp op t (.int k m) (.int k' n)))
def acS (k:IntKind):SI->SI->SI
 | .lit m,.lit n=>.lit (k.wrap (m+n))
def Nq (k:IntKind):SI->SI->SI
 | .lit m,.lit n=>.lit (k.wrap (m-n))
def akW (o:BinOp):Env->BinOp->TypeId->IntKind->IntKind->SI->SI->eh:=match o with
 | .add=>λ_ _ _ k k2 a b=>aQ (gI k k2) (some (.int k (acS k a b))) none
 | .sub=>λ_ _ _ k k2 a b=>aQ (gI k k2) (some (.int k (Nq k a b))) none
 | .eql=>λE _ _ k k2 a b=>aQ (gI k k2) (kZ false (eqI E a b)) none
 | .neq=>λE _ _ k k2 a b=>aQ (gI k k2) (kZ true (eqI E a b)) none
 | .lss=>λE _ _ k k2 a b=>aQ (gI k k2) (kZ false (CF E a b)) none
 | .leq=>λE _ _ k k2 a b=>aQ (gI k k2) (kZ true (CF E b a)) none
 | .gtr=>λE _ _ k k2 a b=>aQ (gI k k2) (kZ false (CF E b a)) none
 | .geq=>λE _ _ k k2 a b=>aQ (gI k k2) (kZ true (CF E a b)) none
 |_=>λE op t k k2 a b=>XB E op t k k2 a b
def ajN (o:BinOp):Env->BinOp->TypeId->ByteArray->ByteArray->eh:=match o with
 | .eql=>λ_ _ _ a b=>some (.bool (Dk a b))
 | .neq=>λ_ _ _ a b=>some (.bool (!Dk a b))
 |_=>λE op t a b=>Gl (nJ E.P (binOp op t (.string a) (.string b)))
def U9 (o:BinOp):Env->TypeId->Operand->Operand->SV->SV->eh:=match o with
 | .eql=>λE t ox oy x y=>kZ false (GS E t ox oy x y)
 | .neq=>λE t ox oy x y=>kZ true (GS E t ox oy x y)
 |_=>λ_ _ _ _ _ _=>none
def arK (E:Env) (op:BinOp) (t:TypeId) (k:IntKind) (a:SI) (y:SV):eh:=az (intOf y) λp=>akW op E op t k p.1 a p.2
def arJ (E:Env) (op:BinOp) (t:TypeId) (a:ByteArray) (y:SV):eh:=az (strOf y) λb=>ajN op E op t a b
def avO (x:SV):Env->BinOp->TypeId->Operand->Operand->SV->SV->eh:=match x with
 | .int k a=>λE op t _ _ _ y=>arK E op t k a y
 | .str a=>λE op t _ _ _ y=>arJ E op t a y
 |_=>λE op t ox oy x y=>U9 op E t ox oy x y
def JR (E:Env) (op:BinOp) (t:TypeId) (ox oy:Operand) (x y:SV):eh:=avO x E op t ox oy x y
def XO (k:IntKind):SI->SI
 | .lit n=>.lit (k.wrap n)
def awO:SI->eh
 | .lit n=>some (.str (Utf8.encode n))
def ajO:SV->eh
 | .str s=>some (.str s)
 | .int _ e=>awO e
 |_=>none
def XP (d:UD):SV->eh:=match d with
 | .int k=>λx=>az (intOf x) λp=>some (.int k (XO k p.2))
 | .string=>λx=>ajO x
 |_=>λ_=>none
def LZ (E:Env) (src dst:TypeId) (x:SV):eh:=bT (E.ty.get src) (E.ty.get dst) λ_ i=>XP i.desc x
def PS:UnOp->Bool
 | .not=>true
 |_=>false
def isNeg:UnOp->Bool
 | .neg=>true
 |_=>false
def unV (x:SV):UnOp->eh:=match x with
 | .bool b=>λop=>aQ (PS op) (some (.bool (!b))) none
 | .int k e=>λop=>aQ (isNeg op) (some (.int k (Nq k (.lit 0) e))) none
 |_=>λ_=>none
def unA (op:UnOp) (x:SV):eh:=unV x op
def mZ (place:Nat->Option (Nat×Nat)) (cs:aY):List (Nat×aY)->Option aY
 | []=>some cs
 |p::rest=>az (place p.1) λq=>aQ (Nat.beq p.2.length q.2&&Nat.ble (Nat.add q.1 q.2) cs.length) (mZ place (eK cs q.1 p.2) rest) none
def ku (tm:Tf):List (Nat×Operand)->Option (List (Nat×aY))
 | []=>some []
 |p::rest=>az (cE tm p.2) λv=>bT v.cells (ku tm rest) λcs l=>some ((p.1,cs)::l)
def rep (z:aY):Nat->aY
 |0=> []
 |n+1=>z++rep z n
def Ps (E:Env) (fs:List FL) (j:Nat):Option (Nat×Nat):=az (fs[j]?) λf=>az (E.ty.get f.type) λfi=>some (f.off,fi.size)
def rX (size:Nat) (j:Nat):Option (Nat×Nat):=some (Nat.mul j size,size)
def JU (r:Option aY):eh:=az r λcs=>some (.agg cs)
def Qr (d:UD):Env->aY->List (Nat×aY)->eh:=match d with
 | .array _ e=>λE z ia=>az (E.ty.get e) λie=>JU (mZ (rX ie.size) z ia)
 | .struct fs=>λE z ia=>JU (mZ (Ps E fs) z ia)
 |_=>λ_ _ _=>none
def E1 (E:Env) (t:TypeId) (ia:List (Nat×aY)):eh:=az (E.ty.get t) λi=>Qr i.desc E i.zero ia
def Hs.up (h:Hs) (u:Up):Hs:=⟨h.hp.set u.1 u.2,h.nx,u.1::h.lg⟩
def Hs.lS (h:Hs) (us:dQ):Hs:= @List.rec Up (λ_=>Hs->Hs) (λh=>h) (λu _ ih h=>ih (h.up u)) us h
def Hs.put (h:Hs) (id:Nat) (o:SO):Hs:=h.up (id,some o)
def Hs.bump (h:Hs):Hs:=⟨h.hp,Nat.add h.nx 1,h.lg⟩
def Hs.fin (h:Hs) (us:dQ):Hs:= @List.rec Up (λ_=>Hs) h (λ_ _ _=>(h.lS us).bump) us
def nq:Option SO->Option (TypeId×aY)
 |some (.cells e cs)=>some (e,cs)
 |_=>none
def HQ:SV->Bool
 | .undef=>true
 |_=>false
def uR:aY->Bool
 | []=>true
 |x::l=>aQ (HQ x) false (uR l)
def je (o:Option SO) (off n:Nat):Option (TypeId×aY):=
 match o with
 |some (.cells e cs)=>some (e,cs)
 |some (.ro cs)=>aQ (uR ((cs.drop off).take n)) (some (0,cs)) none
 |_=>none
def mj (h:Hf) (id off n:Nat):Option aY:=az (je (h id) off n) λp=>aQ (Nat.ble (Nat.add off n) p.2.length) (some ((p.2.drop off).take n)) none
def rowOf (x:SV):Hf->Nat->Option aY:=match x with
 | .sl i o n _=>λh size=>mj h i o (Nat.mul n size)
 | .sle=>λ_ _=>some []
 | .dE=>λ_ _=>some []
 |_=>λ_ _=>none
def wide (i:TI):Nat:=aQ (l5 i.desc) i.size 1
def oX (E:Env) (h:Hf) (t:TypeId) (v:SV):eh:=az (vd v) λq=>az (E.ty.get t) λi=>az (je (h q.1) q.2 (wide i)) λp=>ij i p.2 q.2
def rW (E:Env) (h:Hf) (t:TypeId) (v:SV) (a:SV):Option dQ:=
 az (vd a) λq=>rP (E.ty.get t) v.cells (nq (h q.1)) λi xs p=>aQ (Nat.beq xs.length i.size&&Nat.ble (Nat.add q.2 xs.length) p.2.length) (some [(q.1,some (.cells p.1 (eK p.2 q.2 xs)))]) none
def AN (E:Env) (e:TypeId) (id off n k:Nat):eh:=aQ (Nat.ble (Nat.succ k) n) (az (E.ty.get e) λie=>some (.ptr id (Nat.add off (Nat.mul k ie.size)))) none
def GB (d:UD):Env->SV->Nat->eh:=match d with
 | .slice e=>λE x k=>az (atn x) λq=>AN E e q.1 q.2.1 q.2.2.1 k
 | .array n e=>λE x k=>az (vd x) λq=>AN E e q.1 q.2 n k
 |_=>λ_ _ _=>none
def oj (E:Env) (t:TypeId) (x:SV) (k:Nat):eh:=az (E.ty.get t) λi=>GB i.desc E x k
def j1 (tm:Tf):Option Operand->Option bP
 |none=>some none
 |some x=>az (cE tm x) λv=>az (kX v) λn=>some (some n)
def F4 (m:Cp) (l:Nat):Cp:=
 match m with
 | .k c=>.k (Nat.sub c l)
 | .u e=>.u e
def zy (id off l h size:Nat) (m:Cp):SV:=aQ (Nat.beq l 0) (.sl id off h m) (aQ (Nat.ble (Nat.succ l) h) (.sl id (Nat.add off (Nat.mul l size)) (Nat.sub h l) (F4 m l)) .sle)
def akJ (mx:bP) (h reach:Nat):Bool:=
 match mx with
 |some m=>Nat.ble h m&&Nat.ble m reach
 |none=>true
def orC (a:bP) (b:Cp):Cp:=
 match a with
 |some m=>.k m
 |none=>b
def reach (c:Cp) (n:Nat):Nat:=
 match c with
 | .k m=>m
 | .u _=>n
def Y1 (c:Cp) (e:TypeId):Bool:=
 match c with
 | .k _=>true
 | .u e'=>Nat.beq e' e
def xJ (E:Env) (e:TypeId) (id off n:Nat) (cap:Cp) (lo hi mx:bP):eh:=
 az (E.ty.get e) λie=>aQ (Y1 cap e&&(Nat.ble (lo.getD 0) (hi.getD n)&&(Nat.ble (hi.getD n) (reach cap n)&&akJ mx (hi.getD n) (reach cap n)))) (some (zy id off (lo.getD 0) (hi.getD n) ie.size (orC mx cap))) none
def aak (s:ByteArray) (lo hi mx:bP):eh:=
 match mx with
 |some _=>none
 |none=>aQ (Nat.ble (lo.getD 0) (hi.getD s.size)&&Nat.ble (hi.getD s.size) s.size) (some (.str (s.extract (lo.getD 0) (hi.getD s.size)))) none
def nv:bP->Bool
 |some n=>Nat.beq n 0
 |none=>true
def ID (x:SV):Env->TypeId->bP->bP->bP->eh:=match x with
 | .sl i o n c=>λE e lo hi mx=>xJ E e i o n c lo hi mx
 | .sle=>λ_ _ lo hi mx=>aQ (nv lo&&(nv hi&&mx.isNone)) (some .sle) none
 | .dE=>λ_ _ lo hi mx=>aQ (nv lo&&(nv hi&&nv mx)) (some .dE) none
 |_=>λ_ _ _ _ _=>none
def aoX (d:UD):Env->SV->bP->bP->bP->eh:=match d with
 | .string=>λ_ x lo hi mx=>az (strOf x) λs=>aak s lo hi mx
 | .slice e=>λE x lo hi mx=>az (E.ty.get e) λ_=>ID x E e lo hi mx
 | .array n e=>λE x lo hi mx=>az (vd x) λq=>xJ E e q.1 q.2 n (.k n) lo hi mx
 |_=>λ_ _ _ _ _=>none
def axj (hi mx:bP):Bool:=
 match mx with
 |some _=>hi.isSome
 |none=>true
def Bb (E:Env) (t:TypeId) (x:SV) (lo hi mx:bP):eh:=az (E.ty.get t) λi=>aQ (axj hi mx) (aoX i.desc E x lo hi mx) none
def L5 (s:ByteArray):aY:=s.data.toList.map λb=>.int .u8 (.lit b.toNat)
def A5 (h:Hf) (size:Nat) (x:SV):Option (Nat×aY):=bT (Vi x) (rowOf x h size) λn xs=>some (n,xs)
def srcV (x:SV):Hf->Nat->SV->Option (Nat×aY):=match x with
 | .str b=>λ_ size _=>aQ (Nat.beq size 1) (some (b.size,L5 b)) none
 |_=>λh size x=>A5 h size x
def u9 (h:Hf) (size:Nat) (x:SV):Option (Nat×aY):=srcV x h size x
def pT (ie:TI):Bool:=Nat.ble ie.bytes 65536&&(Nat.ble 1 ie.size&&Nat.beq ie.zero.length ie.size)
def wv (new:Nat) (e:TypeId) (n:Nat) (cs:aY) (us:dQ):gq:=some (.sl new 0 n (.u e),us++ [(new,some (.cells e cs))])
def Qy (new:Nat) (e:TypeId) (size id off n:Nat) (cap:Cp) (m:Nat) (xs:aY) (p:TypeId×aY) (old:aY):gq:=
 match cap with
 | .k c=>
  aQ (Nat.ble (Nat.add n m) c)
   (aQ (Nat.ble (Nat.add off (Nat.mul (Nat.add n m) size)) p.2.length) (some (.sl id off (Nat.add n m) cap,[(id,some (.cells p.1 (eK p.2 (Nat.add off (Nat.mul n size)) xs)))])) none)
   (wv new e (Nat.add n m) (old++xs) [])
 | .u _=>aQ (Nat.ble (Nat.add off (Nat.mul n size)) p.2.length&&Nat.beq e p.1) (wv new e (Nat.add n m) (old++xs) [(id,none)]) none
def XF (n m:Nat):Cp->Bool
 | .k c=>Nat.ble (Nat.succ c) (Nat.add n m)
 | .u _=>false
def L9 (h:Hf) (new:Nat) (e:TypeId) (size m:Nat) (xs:aY) (id off n:Nat) (cap:Cp):gq:=aQ (Nat.ble n 1000000) (aQ (XF n m cap) (az (mj h id off (Nat.mul n size)) λold=>wv new e (Nat.add n m) (old++xs) []) (bT (nq (h id)) (mj h id off (Nat.mul n size)) λp old=>Qy new e size id off n cap m xs p old)) none
def vi (x:SV):Hf->Nat->TypeId->Nat->Nat->aY->gq:=match x with
 | .sl i o n c=>λh new e size m xs=>L9 h new e size m xs i o n c
 | .dE=>λ_ new e _ m xs=>wv new e m xs []
 |_=>λ_ _ _ _ _ _=>none
def VE (E:Env) (h:Hf) (new:Nat) (e:TypeId) (s x:SV):gq:=
 az (E.ty.get e) λie=>aQ (pT ie) (az (u9 h ie.size x) λq=>aQ (Nat.ble q.1 1000000) (aQ (Nat.beq q.1 0) (aQ (Vj s) (some (s,[])) none) (vi s h new e ie.size q.1 q.2)) none) none
def qP (d:UD):Option TypeId:=match d with
 | .slice e=>some e
 |_=>none
def nN (E:Env) (h:Hf) (new:Nat) (t:TypeId) (s x:SV):gq:=az (E.ty.get t) λi=>az (qP i.desc) λe=>VE E h new e s x
def EF (d:UD):Bool:=match d with
 | .string=>true
 |_=>false
def LH (d:UD):Bool:=match d with
 | .bool=>true
 |_=>false
def isLit:SI->Bool
 | .lit _=>true
def akX (k:IntKind):UD->Bool
 | .int k'=>gI k k'
 |_=>false
def I4 (x:SV):UD->Bool:=match x with
 | .bool _=>λd=>LH d
 | .int k e=>λd=>isLit e&&akX k d
 | .str _=>λd=>EF d
 |_=>λ_=>false
def awN:SI->SI->Option Bool
 | .lit a,.lit b=>some (GA a b)
def sameKey (x:SV):SV->Option Bool:=match x with
 | .bool a=>λy=>arv (.bool a) y
 | .int k a=>λy=>az (intOf y) λp=>aQ (gI k p.1) (awN a p.2) none
 | .str a=>λy=>eqStr (.str a) y
 |_=>λ_=>none
def pQ (k:SV):ji->Nat->Option (Option (Nat×SV×Nat))
 | [],_=>some none
 |e::es,i=>
  match sameKey k e.1 with
  |some true=>some (some (i,e.2.1,e.2.2))
  |some false=>pQ k es (Nat.add i 1)
  |none=>none
def j2:Option SO->Option (ji×Nat)
 |some (.map es c)=>some (es,c)
 |_=>none
def acp (x:SV):Hf->Option ji:=match x with
 | .mp i=>λh=>az (j2 (h i)) λp=>some p.1
 | .mu=>λ_=>some []
 |_=>λ_=>none
def okV (ok:Bool) (v:SV) (b:Bool):SV:=aQ ok (.cS [v,.bool b]) v
def JA (ok:Bool) (z:eh):Option (Nat×SV×Nat)->eh
 |some r=>some (okV ok r.2.1 true)
 |none=>az z λz=>some (okV ok z false)
def Bm (d:UD):Option (TypeId×TypeId):=match d with
 | .map k e=>some (k,e)
 |_=>none
def sD (E:Env) (h:Hf) (t:TypeId) (x k:SV) (ok:Bool):eh:=
 az (E.ty.get t) λi=>az (Bm i.desc) λq=>bT (E.ty.get q.1) (E.ty.get q.2) λik ie=>aQ (I4 k ik.desc) (az (acp x h) λes=>az (pQ k es 0) λr=>JA ok (ij ie ie.zero 0) r) none
def YZ (es:ji) (c:Nat) (k v:SV):Option (Nat×SV×Nat)->SO
 |some r=>.map (es.set r.1 (k,v,r.2.2)) c
 |none=>.map (es++ [(k,v,c)]) (Nat.add c 1)
def vn (E:Env) (h:Hf) (t:TypeId) (x k v:SV):Option dQ:=
 az (atO x) λid=>az (E.ty.get t) λi=>az (Bm i.desc) λq=>bT (E.ty.get q.1) (j2 (h id)) λik p=>aQ (I4 k ik.desc) (az (pQ k p.1 0) λr=>some [(id,some (YZ p.1 p.2 k v r))]) none
def uy (n:Nat):SV:=.int .i64 (.lit (.ofNat n))
def atW (x:SV):Hf->eh:=match x with
 | .mp i=>λh=>az (j2 (h i)) λp=>some (uy p.1.length)
 | .mu=>λ_=>some (uy 0)
 |_=>λ_=>none
def xS (d:UD):SV->Hf->eh:=match d with
 | .string=>λx _=>az (strOf x) λs=>some (uy s.size)
 | .slice _=>λx _=>az (Vi x) λn=>some (uy n)
 | .array n _=>λ_ _=>some (uy n)
 | .map _ _=>λx h=>atW x h
 |_=>λ_ _=>none
def fT (tm:Tf):List Operand->Option aY
 | []=>some []
 |x::xs=>bT (cE tm x) (fT tm xs) λv l=>some (v::l)
def same (r:eh):gq:=az r λv=>some (v,[])
def unit (r:Option dQ):gq:=az r λus=>some (.cS [],us)
def one (tm:Tf) (x:Operand) (f:SV->gq):gq:=az (cE tm x) f
def two (tm:Tf) (x y:Operand) (f:SV->SV->gq):gq:=bT (cE tm x) (cE tm y) f
def aCa (E:Env) (new:Nat) (e:TypeId):gq:=az (E.ty.get e) λi=>some (.ptr new 0,[(new,some (.cells e i.zero))])
def Xx (new:Nat) (e:TypeId) (v:SV):gq:=az v.cells λcs=>some (.ptr new 0,[(new,some (.cells e cs))])
def ti (E:Env) (new:Nat) (t:TypeId) (len:Nat) (ia:List (Nat×aY)):gq:=
 az (E.ty.get t) λi=>az (qP i.desc) λe=>az (E.ty.get e) λie=>
  aQ (pT ie&&Nat.ble (Nat.mul len ie.size) 16777216) (az (mZ (rX ie.size) (rep ie.zero len) ia) λcs=>some (.sl new 0 len (.k len),[(new,some (.cells e cs))])) none
def Vc:Fn->Bool
 | .func _=>true
 |_=>false
def aFb (tm:Tf) (f:Fn) (a c:List Operand):gq:=aQ (Vc f) (bT (fT tm a) (fT tm c) λl m=>some (.fn f l m,[])) none
def PC (new:Nat):gq:=some (.mp new,[(new,some (.map [] 0))])
def aJO (E:Env) (tm:Tf) (new:Nat) (t:TypeId):Option Operand->gq
 |none=>PC new
 |some x=>bT (E.ty.get t) (cE tm x) λi v=>bT (Bm i.desc) (kX v) λ_ _=>PC new
def Bj (E:Env) (new:Nat) (t:TypeId) (l c:Nat):gq:=
 az (E.ty.get t) λi=>az (qP i.desc) λe=>az (E.ty.get e) λie=>
  aQ (Nat.ble l c&&(Nat.ble c 1000000&&pT ie)) (some (.sl new 0 l (.k c),[(new,some (.cells e (rep ie.zero c)))])) none
def xD (d:UD):Option (List FL):=match d with
 | .struct fs=>some fs
 |_=>none
def ou (E:Env) (s:TypeId) (f:Nat) (v:SV):gq:=
 bT (E.ty.get s) (vd v) λi p=>az (xD i.desc) λfs=>az (fs[f]?) λfl=>az (E.ty.get fl.type) λfi=>aQ (Nat.ble 1 fi.size) (some (.ptr p.1 (Nat.add p.2 fl.off),[])) none
def xP (E:Env) (t:TypeId) (f:Nat) (v:SV):gq:=
 bT (E.ty.get t) (G9 v) λi cs=>az (xD i.desc) λfs=>az (fs[f]?) λfl=>az (E.ty.get fl.type) λfi=>same (ij fi cs fl.off)
def abz (d:UD):Env->Nat->SV->gq:=match d with
 | .string=>λ_ k v=>az (strOf v) λs=>az (s.data.toList[k]?) λb=>some (.int .u8 (.lit (.ofNat b.toNat)),[])
 | .array n e=>λE k v=>bT (G9 v) (E.ty.get e) λcs ie=>aQ (Nat.ble (Nat.succ k) n) (same (ij ie cs (Nat.mul k ie.size))) none
 |_=>λ_ _ _=>none
def vR (E:Env) (t:TypeId) (k:Nat) (v:SV):gq:=az (E.ty.get t) λi=>abz i.desc E k v
def aEX (x:SV):Hf->Option SO:=match x with
 | .mp i=>λh=>az (j2 (h i)) λp=>some (.mapIter (some i) p.2 [] p.2)
 | .mu=>λ_=>some (.mapIter none 0 [] 0)
 |_=>λ_=>none
def Pn (d:UD) (v:SV) (h:Hf):Option SO:=
 match d with
 | .string=>az (strOf v) λs=>some (.nF s 0)
 | .map _ _=>aEX v h
 |_=>none
def vQ (E:Env) (h:Hf) (new:Nat) (t:TypeId) (v:SV):gq:=az (E.ty.get t) λi=>az (Pn i.desc v h) λo=>some (.ptr new 0,[(new,some o)])
def LG:Option SO->Option (ByteArray×Nat)
 |some (.nF s p)=>some (s,p)
 |_=>none
def xq (v:SV):bP:=az (vd v) λq=>aQ (Nat.beq q.2 0) (some q.1) none
def xQ (id:Nat) (p:ByteArray×Nat):SV×dQ:=
 aQ (Nat.ble (Nat.succ p.2) p.1.size) (.cS [.bool true,uy p.2,.int .i32 (.lit (Utf8.decode p.1 p.2).1)],[(id,some (.nF p.1 (Nat.add p.2 (Utf8.decode p.1 p.2).2)))]) (.cS [.bool false],[])
def yK (h:Hf) (tq:Bool) (v:SV):gq:=aQ tq (az (xq v) λid=>az (LG (h id)) λp=>some (xQ id p)) none
def IZ (E:Env) (mx:Bool) (x y:SV):eh:=bT (intOf x) (intOf y) λa b=>az (aQ mx (CF E a.2 b.2) (CF E b.2 a.2)) λr=>some (.int a.1 (aQ r b.2 a.2))
def II:UD->Bool
 | .slice _=>true
 | .string=>true
 |_=>false
def uA {J:Type}:List J->Option (J×J)
 | [a,b]=>some (a,b)
 |_=>none
def rm (E:Env) (h:Hf) (new:Nat) (b:Builtin) (aa:aY) (ts:List TypeId):gq:=
 match b with
 | .len=>bT aa.head? ts.head? λx t=>aQ (Nat.beq aa.length 1) (az (E.ty.get t) λi=>same (xS i.desc x h)) none
 | .append=>bT (uA aa) (uA ts) λp q=>az (E.ty.get q.2) λi=>aQ (II i.desc) (nN E h new q.1 p.1 p.2) none
 | .min=>az (uA aa) λp=>same (IZ E false p.1 p.2)
 | .max=>az (uA aa) λp=>same (IZ E true p.1 p.2)
 |_=>none
def rY (E:Env) (tm:Tf) (h:Hf) (new:Nat) (c:Call):gq:=
 match c.callee with
 | .builtin b=>az (fT tm c.args.toList) λaa=>rm E h new b aa c.argTypes.toList
 |_=>none
def opD (o:Op):Env->Tf->Hf->Nat->gq:=match o with
 | .move x=>λ_ tm _ _=>one tm x λv=>some (v,[])
 | .assign x=>λ_ tm _ _=>one tm x λv=>some (v,[])
 | .pick c x y=>λ_ tm _ _=>az (cE tm c) λv=>az (oU v) λb=>one tm (aQ b x y) λv=>some (v,[])
 | .alloc e=>λE _ _ new=>aCa E new e
 | .box e x=>λ_ tm _ new=>one tm x (Xx new e)
 | .build t parts=>λE tm _ _=>az (ku tm parts.toList) λia=>same (E1 E t ia)
 | .buildSlice t len parts=>λE tm _ new=>az (ku tm parts.toList) λia=>ti E new t len ia
 | .insert t m k x=>λE tm h _=>two tm m k λa b=>one tm x λc=>unit (vn E h t a b c)
 | .load t x=>λE tm h _=>one tm x λv=>same (oX E h t v)
 | .store t x y=>λE tm h _=>two tm x y λa v=>unit (rW E h t v a)
 | .nilCheck x=>λ_ tm _ _=>one tm x λv=>same (PA v)
 | .binOp op t x y _=>λE tm _ _=>two tm x y λv u=>same (JR E op t x y v u)
 | .unOp op _ x=>λ_ tm _ _=>one tm x λv=>same (unA op v)
 | .convert s d x=>λE tm _ _=>one tm x λv=>same (LZ E s d v)
 | .makeFunc f a c=>λ_ tm _ _=>aFb tm f a.toList c.toList
 | .makeMap t r=>λE tm _ new=>aJO E tm new t r
 | .makeSlice t l c=>λE tm _ new=>two tm l c λu v=>bT (kX u) (kX v) (Bj E new t)
 | .slice t x lo hi mx=>λE tm _ _=>one tm x λv=>rP (j1 tm lo) (j1 tm hi) (j1 tm mx) λl u m=>same (Bb E t v l u m)
 | .fieldAddr s x f=>λE tm _ _=>one tm x (ou E s f)
 | .field t x f=>λE tm _ _=>one tm x (xP E t f)
 | .indexAddr t x ix=>λE tm _ _=>two tm x ix λv u=>az (kX u) λk=>same (oj E t v k)
 | .index t x ix=>λE tm _ _=>two tm x ix λv u=>az (kX u) λk=>vR E t k v
 | .lookup t x k ok=>λE tm h _=>two tm x k λa b=>same (sD E h t a b ok)
 | .mapUpdate t m k x=>λE tm h _=>two tm m k λa b=>one tm x λc=>unit (vn E h t a b c)
 | .range t x=>λE tm h new=>one tm x (vQ E h new t)
 | .next it tq=>λ_ tm h _=>one tm it (yK h tq)
 | .extract x i=>λ_ tm _ _=>one tm x λv=>az (OI v) λvs=>same (vs[i]?)
 | .call c=>λE tm h new=>rY E tm h new c
 |_=>λ_ _ _ _=>none
def qT (E:Env) (op:Op) (tm:Tf) (h:Hf) (new:Nat):gq:=opD op E tm h new
inductive Ex where
 |normal|exit (id:Nat)|ret|fR (v:SV)
 deriving Inhabited
def setArgs (vs:aY):Nat->de->de:= @List.rec SV (λ_=>Nat->de->de) (λ_ t=>t) (λv _ ih i t=>ih (Nat.add i 1) (t.set i (some v))) vs
def iY (tm:de) (d:bP) (v:SV):de:= @Option.rec Nat (λ_=>de) tm (λd=>tm.set d (some v)) d
def kY (nt:Nat) (d:bP):Bool:= @Option.rec Nat (λ_=>Bool) true (λd=>Nat.ble (Nat.succ d) nt) d
def aJD (x:SV):Bool->Option Bool:=match x with
 | .bool b=>λwant=>some (b==want)
 | .cS _=>λ_=>some false
 |_=>λ_=>none
def ajD (want:Bool) (x:SV):Option Bool:=aJD x want
def IX (l:dd):Nat->bP:= @List.rec Oper (λ_=>Nat->bP) (λ_=>none) (λo _ ih j=> @Nat.rec (λ_=>bP) o.dst (λk _=>ih k) j) l
def vF (ops:dd) (tm:Tf) (j:Nat) (want:Bool):Option Bool:= @Option.rec Nat (λ_=>Option Bool) (some false) (λt=>az (tm t) (ajD want)) (IX ops j)
def gw (ops:dd) (o:Oper) (tm:Tf):Option Bool:= @Option.rec (Nat×Bool) (λ_=>Option Bool) (some true) (λg=>vF ops tm g.1 g.2) o.guard
def Pe (E:Env) (tm:Tf) (h:Hf):ResultVar->eh
 | .tmp t=>tm t
 | .cell t ty=>az (tm t) (oX E h ty)
def sy (E:Env) (tm:Tf) (h:Hf):List ResultVar->Option aY
 | []=>some []
 |r::rs=>bT (Pe E tm h r) (sy E tm h rs) λv l=>some (v::l)
def oneOf:aY->SV
 | [v]=>v
 |vs=>.cS vs
def AP:List UInt8->List UInt8->Bool
 | [],[]=>false
 | [],_::_=>true
 |_::_,[]=>false
 |a::l,b::m=>aQ (Nat.ble (Nat.succ a.toNat) b.toNat) true (aQ (Nat.beq a.toNat b.toNat) (AP l m) false)
def EZ (a b:ByteArray):Int:=aQ (AP a.data.toList b.data.toList) (-1) (aQ (sg a.data.toList b.data.toList) 0 1)
structure Rc where
 i:Nat
 call:Bool
 rd:br
 wr:br
 lo:Nat
 hi:Nat
inductive Dm where
 |mark (d:Nat)
 |fn (k:FuncId) (args eG:aY)
inductive lJ where
 |code (nt:Nat) (c:Code) (tm:de) (mk:List Dm) (h:Hs)
 |ops (nt:Nat) (all l:dd) (tm:de) (mk:List Dm) (h:Hs)
 |draw (nt W:Nat) (all:dd) (base i M:Nat) (prev:List Rc) (l:dd) (tm:de) (h:Hs)
 |call (f:SV) (args:aY) (h:Hs)
structure Oc where
 e:Ex
 tm:de
 dm:List Dm
 h:Hs
structure Rs where
 fR:Bool
 v:SV
 h:Hs
inductive Out where
 |db (l:List Oc)
 |st (tm:de) (h:Hs)
 |iA (l:List Rs)
 |fail (why:String)
 |S5 (k:Nat) (args:aY) (h:Hs)
 deriving Inhabited
abbrev Out.code (e:Ex) (tm:de) (mk:List Dm) (h:Hs):Out:=.db [⟨e,tm,mk,h⟩]
abbrev Out.res (v:SV) (h:Hs):Out:=.iA [⟨false,v,h⟩]
abbrev Out.fR (v:SV) (h:Hs):Out:=.iA [⟨true,v,h⟩]
def acN:Out->Out->Out
 | .db a,.db b=>.db (a++b)
 | .iA a,.iA b=>.iA (a++b)
 | .fail s,_=>.fail s
 |_,.fail s=>.fail s
 |_,_=>.fail ""
def wM {J:Type} (k:J->Out) (l:List J):Out:=
 @List.rec J (λ_=>Out) (.fail "") (λo l ih=> @List.rec J (λ_=>Out) (k o) (λ_ _ _=>acN (k o) ih) l) l
def IU (r:Out) (k:Ex->de->List Dm->Hs->Out):Out:= @Out.rec (λ_=>Out) (λl=>wM (λo=>k o.e o.tm o.dm o.h) l) (λ_ _=>.fail "") (λ_=>.fail "") (λs=>.fail s) (λa b c=>.S5 a b c) r
def stK (r:Out) (k:de->Hs->Out):Out:= @Out.rec (λ_=>Out) (λ_=>.fail "") k (λ_=>.fail "") (λs=>.fail s) (λa b c=>.S5 a b c) r
def aay (r:Out) (k kp:SV->Hs->Out):Out:= @Out.rec (λ_=>Out) (λ_=>.fail "") (λ_ _=>.fail "") (λl=>wM (λr=>aQ r.fR (kp r.v r.h) (k r.v r.h)) l) (λs=>.fail s) (λa b c=>.S5 a b c) r
def one1 (l:List Rs) (k:Rs->Out):Out:= @List.rec Rs (λ_=>Out) (.fail "") (λr l _=> @List.rec Rs (λ_=>Out) (k r) (λ_ _ _=>.fail "") l) l
def oneK (r:Out) (k kp:SV->Hs->Out):Out:= @Out.rec (λ_=>Out) (λ_=>.fail "") (λ_ _=>.fail "") (λl=>one1 l λr=>aQ r.fR (kp r.v r.h) (k r.v r.h)) (λs=>.fail s) (λa b c=>.S5 a b c) r
def seqE (e:Ex) (tm:de) (mk:List Dm) (h:Hs) (k:de->List Dm->Hs->Out):Out:= @Ex.rec (λ_=>Out) (k tm mk h) (λid=>.code (.exit id) tm mk h) (.code .ret tm mk h) (λv=>.code (.fR v) tm mk h) e
def UW (r:Out) (k:de->List Dm->Hs->Out):Out:=IU r λe tm mk h=>seqE e tm mk h k
def leave (id:Nat) (e:Ex):Ex:= @Ex.rec (λ_=>Ex) .normal (λid'=>aQ (Nat.beq id' id) .normal (.exit id')) .ret (λv=>.fR v) e
def acF (id:Nat) (r:Out):Out:=IU r λe tm mk h=>.code (leave id e) tm mk h
def alR (v:eh) (a b:Out):Out:= @Option.rec Bool (λ_=>Out) (.fail "") (λc=>aQ c a b) (az v oU)
def Vu (E:Env):SV->Bool
 | .fn (.func k) _ _=> @Option.rec Func (λ_=>Bool) false (λfn=>fn.body.isSome) (E.fn.get k)
 |_=>false
def ayR (c:Code):Env->(lJ->Out)->Nat->de->List Dm->Hs->Out:= @Code.rec (λ_=>Env->(lJ->Out)->Nat->de->List Dm->Hs->Out)
 (λ_ _ _ tm mk h=>.code .normal tm mk h)
 (λ_ ops draw _ rec nt tm mk h=>aQ draw (stK (rec (.draw nt ops.size ops.toList h.nx 0 0 [] ops.toList tm ⟨h.hp,Nat.add h.nx ops.size,h.lg⟩)) λw6 h'=>.code .normal w6 mk h') (rec (.ops nt ops.toList ops.toList tm mk h)))
 (λa b _ _ _ rec nt tm mk h=>UW (rec (.code nt a tm mk h)) λw6 mk' h'=>rec (.code nt b w6 mk' h'))
 (λc a b _ _ _ rec nt tm mk h=>alR (cE tm.get c) (rec (.code nt a tm mk h)) (rec (.code nt b tm mk h)))
 (λid c _ _ rec nt tm mk h=>acF id (rec (.code nt c tm mk h)))
 (λc _ _ rec nt tm mk h=>UW (rec (.code nt c tm mk h)) λw6 mk' h'=>rec (.code nt (.loop c) w6 mk' h'))
 (λ_ _ _ _ _ _ _ _ _ _ _ _=>.fail "")
 (λid _ _ _ tm mk h=>.code (.exit id) tm mk h)
 (λ_ _ _ _ _ _ _ _=>.fail "")
 (λ_ _ _ _ _ _ _=>.fail "")
 (λ_ _ _ _ _ _ _=>.fail "")
 (λ_ _ _ tm mk h=>.code .ret tm mk h)
 (λ_ _ _ _ _ _ _=>.fail "") c
def sG (tm:Tf):Callee->eh
 | .value x=>cE tm x
 |_=>none
def isValue:Callee->Bool
 | .value _=>true
 |_=>false
def wN (o:Op):Option Call:=match o with
 | .call c=>aQ (isValue c.callee) (some c) none
 |_=>none
def Gu (x:Nat):br->Bool
 | []=>false
 |y::l=>aQ (Nat.beq x y) true (Gu x l)
def goK (rec:lJ->Out) (h:Hs) (f:eh) (aa:Option aY) (k kp:SV->Hs->Out):Out:=
 @Option.rec (SV×aY) (λ_=>Out) (.fail "") (λp=>aay (rec (.call p.1 p.2 h)) k kp) (bT f aa λf aa=>some (f,aa))
def auV (rec:lJ->Out) (h:Hs) (f:eh) (aa:Option aY) (k kp:SV->Hs->Out):Out:=
 @Option.rec (SV×aY) (λ_=>Out) (.fail "") (λp=>oneK (rec (.call p.1 p.2 h)) k kp) (bT f aa λf aa=>some (f,aa))
def ve (rec:lJ->Out) (nt:Nat) (all l:dd) (tm:de) (mk:List Dm) (d:bP) (v:SV) (h:Hs):Out:=rec (.ops nt all l (iY tm d v) mk h)
def asS (rec:lJ->Out) (nt:Nat) (all l:dd) (tm:de) (mk:List Dm) (h:Hs) (o:Oper) (r:gq):Out:=
 @Option.rec (SV×dQ) (λ_=>Out) (.fail o.pos) (λr=>ve rec nt all l tm mk o.dst r.1 (h.fin r.2)) r
def PB (o:Op):Option (Operand×Bool):=match o with
 | .next it tq=>aQ tq none (some (it,false))
 | .entry it=>some (it,true)
 |_=>none
def Gx (seen:br) (es:ji):ji:=es.filter λe=> !Gu e.2.2 seen
def iterM (since:Nat) (seen:br) (last c:Nat) (es:ji):Bool:=
 es.all (λe=>Nat.ble (Nat.succ e.2.2) since)&&Nat.ble since last
def agE (rec:lJ->Out) (nt:Nat) (all l:dd) (tm:de) (mk:List Dm) (h:Hs) (d:bP) (id m since:Nat) (seen:br) (c:Nat) (es:ji):Out:=
 @List.rec (SV×SV×Nat) (λ_=>Out) (ve rec nt all l tm mk d (.cS [.bool false]) h) (λ_ _ _=>wM (λe=>ve rec nt all l tm mk d (.cS [.bool true,e.1,e.2.1]) (h.put id (.mapIter (some m) since (seen++ [e.2.2]) c))) (Gx seen es)) (Gx seen es)
def akP:br->bP
 | []=>none
 | [a]=>some a
 |_::l=>akP l
def XG (b:Nat):ji->eh
 | []=>none
 |e::es=>aQ (Nat.beq e.2.2 b) (some (.cS [e.1,e.2.1])) (XG b es)
def EV (h:Hf) (id:Nat):eh:=
 match h id with
 |some (.mapIter (some m) since seen last)=>
  (match h m with
  |some (.map es c)=>aQ (Nat.beq c last) (az (akP seen) λb=>XG b es) none
  |_=>none)
 |_=>none
def Qg (rec:lJ->Out) (nt:Nat) (all l:dd) (tm:de) (mk:List Dm) (h:Hs) (d:bP) (r:eh):Out:= @Option.rec SV (λ_=>Out) (.fail "") (λv=>ve rec nt all l tm mk d v h) r
def xE (rec:lJ->Out) (nt:Nat) (all l:dd) (tm:de) (mk:List Dm) (h:Hs) (d:bP) (id:Nat):Out:=
 match h.hp.get id with
 |some (.mapIter none _ _ _)=>ve rec nt all l tm mk d (.cS [.bool false]) h
 |some (.mapIter (some m) since seen last)=>
  (match h.hp.get m with
  |some (.map es c)=>aQ (iterM since seen last c es) (agE rec nt all l tm mk h d id m since seen c es) (.fail "")
  |_=>.fail "")
 |_=>.fail ""
def akT (rec:lJ->Out) (nt:Nat) (all l:dd) (tm:de) (mk:List Dm) (h:Hs) (d:bP) (isE:Bool) (v:eh):Out:=
 @Option.rec Nat (λ_=>Out) (.fail "") (λid=>aQ isE (Qg rec nt all l tm mk h d (EV h.hp.get id)) (xE rec nt all l tm mk h d id)) (az v xq)
def akn (E:Env) (rec:lJ->Out) (nt:Nat) (all l:dd) (tm:de) (mk:List Dm) (h:Hs) (o:Oper) (it:Option (Operand×Bool)):Out:=
 @Option.rec (Operand×Bool) (λ_=>Out) (asS rec nt all l tm mk h o (qT E o.op tm.get h.hp.get h.nx)) (λx=>akT rec nt all l tm mk h o.dst x.2 (cE tm.get x.1)) it
def doK (E:Env) (rec:lJ->Out) (nt:Nat) (all l:dd) (tm:de) (mk:List Dm) (h:Hs) (o:Oper) (c:Option Call):Out:=
 @Option.rec Call (λ_=>Out) (akn E rec nt all l tm mk h o (PB o.op)) (λc=>goK rec h (sG tm.get c.callee) (fT tm.get c.args.toList) (ve rec nt all l tm mk o.dst) λv h=>.code (.fR v) tm mk h) c
def ajB (E:Env) (rec:lJ->Out) (nt:Nat) (all l:dd) (tm:de) (mk:List Dm) (h:Hs) (o:Oper) (w:Option Bool):Out:=
 @Option.rec Bool (λ_=>Out) (.fail "") (λw=>aQ w (doK E rec nt all l tm mk h o (wN o.op)) (ve rec nt all l tm mk o.dst (.cS []) h)) w
def agD (E:Env) (rec:lJ->Out) (nt:Nat) (all l:dd) (tm:de) (mk:List Dm) (h:Hs):Out:=
 @List.rec Oper (λ_=>Out) (.code .normal tm mk h) (λo l _=>aQ (kY nt o.dst) (ajB E rec nt all l tm mk h o (gw all o tm.get)) (.fail "")) l
def force {O:Type} (m:Nat) (f:Nat->O):O:=Nat.rec (f 0) (λk _=>f (k+1)) m
def mc (o:Oper):br:=(o.after.toList.filter (Region.binds .any ·)).map (·.on)
def nW (W M:Nat):br->Nat
 | []=>0
 |i::ds=>Nat.lor (nW W M ds) (Nat.lor (Nat.shiftLeft 1 i) (Nat.mod (Nat.shiftRight M (Nat.mul i W)) (Nat.pow 2 W)))
def rO (m i:Nat):Bool:=Nat.beq (Nat.land (Nat.shiftRight m i) 1) 1
def lQ (x:Nat):br->Bool
 | []=>false
 |y::l=>aQ (Nat.beq x y) true (lQ x l)
def o5:br->br->Bool
 | [],_=>true
 |x::l,m=>aQ (lQ x m) false (o5 l m)
def akH:br->Bool
 | []=>true
 |_=>false
def IV (lo hi:Nat):br->Bool
 | []=>true
 |x::l=>aQ (Nat.ble (Nat.succ x) lo) (IV lo hi l) (aQ (Nat.ble hi x) (IV lo hi l) false)
def PZ (p r:Rc):Bool:=
 IV p.lo p.hi r.rd&&(IV p.lo p.hi r.wr&&(IV r.lo r.hi p.rd&&(IV r.lo r.hi p.wr&&(o5 p.rd r.wr&&(o5 r.rd p.wr&&(o5 p.wr r.wr &&
  aQ p.call (aQ r.call false (akH r.wr)) (aQ r.call (akH p.wr) true)))))))
def qj (m:Nat) (r:Rc):List Rc->Bool
 | []=>true
 |p::ps=>aQ (rO m p.i) (qj m r ps) (aQ (PZ p r) (qj m r ps) false)
def C7 (j:Nat):br->Bool
 | []=>true
 |i::l=>aQ (Nat.ble (Nat.succ i) j) (C7 j l) false
def lR:eh->br
 |some (.ptr i _)=> [i]
 |some (.sl i _ _ _)=> [i]
 |some (.mp i)=> [i]
 |_=> []
def oY (tm:Tf):List Operand->br
 | []=> []
 |x::xs=>lR (cE tm x)++oY tm xs
def idM:eh->br
 |some (.mp i)=> [i]
 |_=> []
def GC (tm:Tf):List Operand->br
 | []=> []
 |x::xs=>idM (cE tm x)++GC tm xs
def uL (c:Call):Bool:=
 match c.callee with
 | .builtin .len=>true
 |_=>false
def pB (op:Op) (tm:Tf):br:=
 match op with
 | .load _ x=>oY tm [x]
 | .store _ x y=>oY tm [x,y]
 | .lookup _ x k _=>oY tm [x,k]
 | .mapUpdate _ m k x=>oY tm [m,k,x]
 | .insert _ m k x=>oY tm [m,k,x]
 | .next it _=>oY tm [it]
 | .range _ x=>oY tm [x]
 | .call c=>aQ (uL c) (GC tm c.args.toList) (oY tm c.args.toList)
 |_=> []
def zf (new:Nat):dQ->br
 | []=> []
 |u::us=>aQ (Nat.beq u.1 new) (zf new us) (u.1::zf new us)
def below (n:Nat):br->br->br
 | [],acc=>acc
 |x::l,acc=>aQ (Nat.ble (Nat.succ x) n) (below n l (x::acc)) (below n l acc)
def wC (m:Nat):List Rc->Hp->Hp
 | [],hp=>hp
 |p::ps,hp=>aQ (rO m p.i) (wC m ps hp) (wC m ps (hp.set p.lo none))
def pH (m:Nat) (old:Hp):List Rc->Hp->Hp
 | [],hp=>hp
 |p::ps,hp=>aQ (rO m p.i) (pH m old ps hp) (pH m old ps (hp.set p.lo (old.get p.lo)))
def CB (rec:lJ->Out) (nt W:Nat) (all:dd) (base i M m:Nat) (prev:List Rc) (l:dd) (tm:de) (d:bP) (r:Rc) (v:SV) (h:Hs):Out:=
 aQ (qj m r prev) (force (Nat.lor M (Nat.shiftLeft m (Nat.mul i W))) λM'=>rec (.draw nt W all base (Nat.add i 1) M' (r::prev) l (iY tm d v) h)) (.fail "")
def asU (rec:lJ->Out) (nt W:Nat) (all:dd) (base i M m:Nat) (prev:List Rc) (l:dd) (tm:de) (h:Hs) (o:Oper) (r:gq):Out:=
 @Option.rec (SV×dQ) (λ_=>Out) (.fail o.pos) (λr=>CB rec nt W all base i M m prev l tm o.dst ⟨i,false,pB o.op tm.get,zf (Nat.add base i) r.2,Nat.add base i,Nat.add (Nat.add base i) 1⟩ r.1 (h.lS r.2)) r
def doD (E:Env) (rec:lJ->Out) (nt W:Nat) (all:dd) (base i M m:Nat) (prev:List Rc) (l:dd) (tm:de) (h:Hs) (o:Oper) (c:Option Call):Out:=
 @Option.rec Call (λ_=>Out) (asU rec nt W all base i M m prev l tm h o (qT E o.op tm.get h.hp.get (Nat.add base i)))
  (λc=>auV rec ⟨wC m prev h.hp,h.nx,[]⟩ (sG tm.get c.callee) (fT tm.get c.args.toList) (λv h2=>
   CB rec nt W all base i M m prev l tm o.dst ⟨i,true,[],below h.nx h2.lg [],h.nx,h2.nx⟩ v ⟨pH m h.hp prev h2.hp,h2.nx,below h.nx h2.lg h.lg⟩)
   λ_ _=>.fail "") c
def ajC (E:Env) (rec:lJ->Out) (nt W:Nat) (all:dd) (base i M m:Nat) (prev:List Rc) (l:dd) (tm:de) (h:Hs) (o:Oper) (w:Option Bool):Out:=
 @Option.rec Bool (λ_=>Out) (.fail "") (λw=>aQ w (doD E rec nt W all base i M m prev l tm h o (wN o.op)) (CB rec nt W all base i M m prev l tm o.dst ⟨i,false,[],[],Nat.add base i,Nat.add (Nat.add base i) 1⟩ (.cS []) h)) w
def Y8 (E:Env) (rec:lJ->Out) (nt W:Nat) (all:dd) (base i M:Nat) (prev:List Rc) (l:dd) (tm:de) (h:Hs):Out:=
 @List.rec Oper (λ_=>Out) (.st tm h) (λo l _=>aQ (kY nt o.dst && C7 i (mc o)) (force (Nat.mod (nW W M (mc o)) (Nat.pow 2 W)) λm=>ajC E rec nt W all base i M m prev l tm h o (gw all o tm.get)) (.fail "")) l
def Y3:List Operand->br
 | []=> []
 |x::xs=>(match x with| .tmp t=>t::Y3 xs|_=>Y3 xs)
def looks (all:dd) (o:Oper):br:=Y3 o.op.operands.toList++(match o.guard with|some g=>(IX all g.1).toList|none=> [])
def wj (all:dd) (p r:Oper):Bool:=o5 p.dst.toList (looks all r)&&(o5 r.dst.toList (looks all p)&&o5 p.dst.toList r.dst.toList)
def Ba (all:dd) (m:Nat) (r:Oper):Nat->dd->Bool
 |_,[]=>true
 |k,p::ps=>aQ (rO m k) (Ba all m r (Nat.sub k 1) ps) (aQ (wj all p r) (Ba all m r (Nat.sub k 1) ps) false)
def AI (W:Nat) (all:dd):dd->Nat->Nat->dd->Bool
 | [],_,_,_=>true
 |o::l,i,M,prev=>force (Nat.mod (nW W M (mc o)) (Nat.pow 2 W)) λm=>aQ (Ba all m o (Nat.sub i 1) prev) (force (Nat.lor M (Nat.shiftLeft m (Nat.mul i W))) λM'=>AI W all l (Nat.add i 1) M' (o::prev)) false
def codeOk (c:Code):Bool:= @Code.rec (λ_=>Bool) true (λ_ ops draw=>aQ draw (AI ops.size ops.toList ops.toList 0 0 []) true) (λ_ _ a b=>a&&b) (λ_ _ _ a b=>a&&b) (λ_ _ a=>a) (λ_ a=>a) (λ_ _ _ _ a b=>a&&b) (λ_=>true) (λ_ a=>a) (λ_=>true) (λ_=>true) true (λ_=>true) c
def XE (fn:Func):Bool:= @Option.rec Code (λ_=>Bool) true codeOk fn.body
def LW (e:Ex):Option eh:= @Ex.rec (λ_=>Option eh) (some none) (λ_=>none) (some none) (λv=>some (some v)) e
def yQ (s:String):Bool:=s== "runtime.NumGoroutine"
def PR (e:Ex):Bool:= @Ex.rec (λ_=>Bool) true (λ_=>false) true (λ_=>false) e
def vu (e:Ex):Bool:= @Ex.rec (λ_=>Bool) true (λ_=>false) false (λ_=>false) e
def avp (E:Env) (fn:Func) (tm:de) (u:eh) (h:Hs):Out:=
 @Option.rec SV (λ_=>Out) (@Option.rec aY (λ_=>Out) (.fail fn.name) (λvs=>.res (oneOf vs) h) (sy E tm.get h.hp.get fn.results.toList)) (λv=>.fR v h) u
def EA (E:Env) (fn:Func) (tm:de):List Dm->eh->Hs->Out
 | [],u,h=>avp E fn tm u h
 |_,_,_=>.fail ""
def XM (nx:Nat) (lg:br) (r:Out):Out:=aay r (λv h=>.res v ⟨h.hp,h.nx,below nx h.lg lg⟩) λv h=>.fR v ⟨h.hp,h.nx,below nx h.lg lg⟩
def aax (E:Env) (rec:lJ->Out) (fn:Func) (nx:Nat) (lg:br) (r:Out):Out:=
 IU r λe tm mk h=> @Option.rec eh (λ_=>Out) (.fail "") (λu=>XM nx lg (EA E fn tm mk u h)) (LW e)
def avc (fn:Func) (aa:aY) (h:Hs):Out:=
 match aa with
 | [a,b]=>(match strOf a with|some a=>(match strOf b with|some b=>aQ (fn.name== "internal/bytealg.abigen_runtime_cmpstring") (.res (.int .i64 (.lit (EZ a b))) h) (.fail fn.name)|_=>.fail fn.name)|_=>.fail fn.name)
 |_=>.fail fn.name
def acE (E:Env) (rec:lJ->Out) (k:Nat) (fn:Func) (aa:aY) (h:Hs):Out:=
 @Option.rec Code (λ_=>Out) (avc fn aa h) (λc=>aQ (Nat.ble aa.length fn.ntmps) (aQ (yQ fn.name) (.fail "") (aax E rec fn h.nx h.lg (rec (.code fn.ntmps c (setArgs aa 0 .nil) [] ⟨h.hp,h.nx,[]⟩)))) (.fail "")) fn.body
def zx (A B C:Nat) (svs:aY):aY:=svs.take A++((svs.drop B).take (Nat.sub C B)++(List.replicate (Nat.sub B A) .undef++svs.drop C))
def zu {J:Type} (xs:List J) (k:Nat) (ys:List J):List J:=xs.take k++(ys++xs.drop k)
def alW (off len sz:Nat):Cp->Bool
 | .k m=>Nat.ble (Nat.add off (Nat.mul m sz)) len
 | .u _=>true
def acv (sz:Nat) (f:Hf):aY->gq
 | [.sl id off n c,.int .i64 a,.int .i64 b]=>rP (Vg a) (Vg b) (nq (f id)) λi j p=>
   aQ (Nat.ble (Nat.succ i) j&&(Nat.ble j n&&Nat.ble (Nat.add off (Nat.mul n sz)) p.2.length)) (some (.sl id off (Nat.sub n (Nat.sub j i)) c,[(id,some (.cells p.1 (zx (Nat.add off (Nat.mul i sz)) (Nat.add off (Nat.mul j sz)) (Nat.add off (Nat.mul n sz)) p.2)))])) none
 |_=>none
def abv (e:TypeId) (sz:Nat) (f:Hf) (new:Nat):aY->gq
 | [.sl id off n c,.int .i64 a,.sl CH vq q c2]=>rP (Vg a) (nq (f id)) (nq (f CH)) λi p p2=>
   aQ (Nat.ble i n&&(Nat.ble 1 q&&(Nat.ble n 1000000&&(Nat.ble q 1000000&&(!Nat.beq id CH&&(Nat.beq p.1 e&&(Nat.ble (Nat.add off (Nat.mul n sz)) p.2.length&&(Nat.ble (Nat.add vq (Nat.mul q sz)) p2.2.length&&alW off p.2.length sz c))))))))
    (some (.sl new 0 (Nat.add n q) (.u e),[(id,none),(new,some (.cells e (zu ((p.2.drop off).take (Nat.mul n sz)) (Nat.mul i sz) ((p2.2.drop vq).take (Nat.mul q sz)))))])) none
 |_=>none
def zt (x:Int):List Int->List Int
 | []=> [x]
 |y::ys=>if x<=y then x::y::ys else y::zt x ys
def lK:List Int->List Int
 | []=> []
 |x::xs=>zt x (lK xs)
def kT:List Int->List Int
 | []=> []
 |x::xs=>match xs with
  | []=> [x]
  |y::_=>if x=y then kT xs else x::kT xs
def ddZ (xs:List Int):List Int:=kT xs++List.replicate (xs.length-(kT xs).length) 0
def Ai (b:Bool) (xs:List Int):List Int:=aQ b (lK xs) (ddZ xs)
def akL:SV->Option Int
 | .int .i64 (.lit x)=>some x
 |_=>none
def LI (l:aY):Option (List Int):= @List.rec SV (λ_=>Option (List Int)) (some []) (λv _ ih=>bT (akL v) ih λx r=>some (x::r)) l
def mM (l:List Int):aY:=l.map λx=>.int .i64 (.lit x)
def PT (b:Bool) (f:Hf):aY->gq
 | [.dE]=>some (aQ b (.cS []) .dE,[])
 | [.sl id off n c]=>aQ (Nat.beq n 0) (some (aQ b (.cS []) (.sl id off 0 c),[])) (az (nq (f id)) λp=>az (LI ((p.2.drop off).take n)) λxs=>
   aQ (Nat.ble 1 n&&(Nat.ble (Nat.add off n) p.2.length&&Nat.ble n 4294967295)) (some (aQ b (.cS []) (.sl id off (kT xs).length c),[(id,some (.cells p.1 (p.2.take off++(mM (Ai b xs)++p.2.drop (Nat.add off n)))))])) none)
 |_=>none
def qA (E:Env) (c:Nat) (f:Hf) (new:Nat) (aa:aY):gq:=
 aQ (Nat.ble 1048576 c) (PT (Nat.beq c 1048576) f aa) (az (E.ty.get (Nat.div c 2)) λie=>aQ (Nat.beq (Nat.mod c 2) 0) (acv ie.size f aa) (abv (Nat.div c 2) ie.size f new aa))
def wu (k:Nat):List (Nat×Nat)->bP
 | []=>none
 |p::l=>aQ (Nat.beq p.1 k) (some p.2) (wu k l)
def alv (h:Hs) (us:dQ):Hs:=⟨(Hs.fin ⟨h.hp,h.nx,[]⟩ us).hp,(Hs.fin ⟨h.hp,h.nx,[]⟩ us).nx,below h.nx (Hs.fin ⟨h.hp,h.nx,[]⟩ us).lg h.lg⟩
def axg (h:Hs) (r:gq):Out:= @Option.rec (SV×dQ) (λ_=>Out) (.fail "") (λp=>.res p.1 (alv h p.2)) r
def Lu (E:Env) (k:Nat) (aa:aY) (h:Hs):Out:= @Option.rec Nat (λ_=>Out) (.fail "") (λc=>axg h (qA E c h.hp.get h.nx aa)) (wu k E.wh)
def auW (E:Env) (rec:lJ->Out) (k:Nat) (fn:Option Func) (aa:aY) (h:Hs):Out:= @Option.rec Func (λ_=>Out) (Lu E k aa h) (λfn=>acE E rec k fn aa h) fn
def alu (k:Nat):List (Nat×SV)->eh
 | []=>none
 |p::l=>aQ (Nat.beq p.1 k) (some p.2) (alu k l)
def yb (E:Env) (k:Nat) (aa:aY):eh:= @List.rec SV (λ_=>eh) (alu k E.done) (λ_ _ _=>none) aa
mutual
def akq (τ:Nat->Nat):SV->SV
 | .bool b=>.bool b
 | .int k e=>.int k e
 | .str s=>.str s
 | .ptr a o=>.ptr (τ a) o
 | .qe=>.qe
 | .sl a o n c=>.sl (τ a) o n c
 | .sle=>.sle
 | .dE=>.dE
 | .mp a=>.mp (τ a)
 | .mu=>.mu
 | .fn f a c=>.fn f (Cu τ a) (Cu τ c)
 | .pd=>.pd
 | .agg l=>.agg (Cu τ l)
 | .cS l=>.cS (Cu τ l)
 | .undef=>.undef
def Cu (τ:Nat->Nat):aY->aY
 | []=> []
 |x::l=>akq τ x::Cu τ l
end
def akr (τ:Nat->Nat):ji->ji
 | []=> []
 |e::l=>(akq τ e.1,akq τ e.2.1,e.2.2)::akr τ l
def renO (τ:Nat->Nat):SO->SO
 | .cells e cs=>.cells e (Cu τ cs)
 | .map es c=>.map (akr τ es) c
 |o=>o
def aEY:SO->Bool
 | .cells _ _=>true
 | .map _ _=>true
 |_=>false
mutual
def avH:SV->SV->List (Nat×Nat)
 | .ptr a _,.ptr b _=> [(a,b)]
 | .sl a _ _ _,.sl b _ _ _=> [(a,b)]
 | .mp a,.mp b=> [(a,b)]
 | .fn _ a c,.fn _ a' c'=>L3 a a'++L3 c c'
 | .agg l,.agg l'=>L3 l l'
 | .cS l,.cS l'=>L3 l l'
 |_,_=> []
def L3:aY->aY->List (Nat×Nat)
 |x::l,y::m=>avH x y++L3 l m
 |_,_=> []
end
def ayQ:ji->ji->List (Nat×Nat)
 |x::l,y::m=>avH x.1 y.1++(avH x.2.1 y.2.1++ayQ l m)
 |_,_=> []
def oS:SO->Option SO->List (Nat×Nat)
 | .cells _ cs,some (.cells _ cs')=>L3 cs cs'
 | .map es _,some (.map CO _)=>ayQ es CO
 |_,_=> []
def fnK (E:Env) (rec:lJ->Out) (f:Fn) (aa:aY) (h:Hs):Out:=
 match f with
 | .func k=> @Option.rec SV (λ_=>Out) (auW E rec k (E.fn.get k) aa h) (λv=>.res v h) (yb E k aa)
 |_=>.fail ""
def Qp (x:SV):Env->(lJ->Out)->aY->Hs->Out:=match x with
 | .fn f first eG=>λE rec aa h=>fnK E rec f (first++aa++eG) h
 |_=>λ_ _ _ _=>.fail ""
def step (E:Env) (rec:lJ->Out) (j:lJ):Out:=
 @lJ.rec (λ_=>Out) (λnt c tm mk h=>ayR c E rec nt tm mk h) (λnt all l tm mk h=>agD E rec nt all l tm mk h) (λnt W all base i M prev l tm h=>Y8 E rec nt W all base i M prev l tm h) (λf aa h=>Qp f E rec aa h) j
def run (E:Env) (n:Nat):lJ->Out:= @Nat.rec (λ_=>lJ->Out) (λ_=>.fail "") (λ_ ih j=>step E ih j) n
end Go.bX
namespace Go.bX
open Go.RowKit
variable {J γ O:Type} {b c nt o n i off k l new M:Nat} {x ox:Operand} {r z v u u1:Value} {a:Act} {w' w0:World} {e t src tx ty:TypeId} {p:ByteArray×Nat} {s:ByteArray} {q fz:Nat×Nat} {neg:Bool} {ob:Obj} {parts:Array (Nat×Value)} {it:TypeInfo} {kl kk:IntKind} {lo:Option Operand} {base:Option Addr}
section
variable {δ:Type} {w:World}
def bH (b:Bool) (x y:J):aQ b x y=if b=true then x else y:=by cases b<;>rfl
def aV {b:Bool} {x:Option J} {r:J} (h:aQ b x none=some r):b=true/\x=some r:=by
 cases b
 ·simp[aQ] at h
 ·exact ⟨rfl,h⟩
def aq {x:Option J} {f:J->Option γ} {r:γ} (h:az x f=some r):∃a,x=some a/\f a=some r:=by
 cases x with
 |none=>cases h
 |some a=>exact ⟨a,rfl,h⟩
def bp {x:Option J} {y:Option O} {f:J->O->Option γ} {r:γ} (h:bT x y f=some r):∃a b,x=some a/\y=some b/\f a b=some r:=by
 cases x with
 |none=>cases h
 |some a=>
  cases y with
  |none=>cases h
  |some b=>exact ⟨a,b,rfl,rfl,h⟩
def pY {x:Option J} {y:Option O} {z:Option δ} {f:J->O->δ->Option γ} {r:γ} (h:rP x y z f=some r):∃a b c,x=some a/\y=some b/\z=some c/\f a b c=some r:=by
 let ⟨a,ha,h⟩:=aq h;let ⟨b,c,hb,hc,h⟩:=bp h;exact ⟨a,b,c,ha,hb,hc,h⟩
def beq_iff (a b:Nat):Nat.beq a b=true↔a=b:=⟨Nat.eq_of_beq_eq_true,λh=>by subst h;exact Nat.beq_refl a⟩
def beq_eq (a b:Nat):Nat.beq a b=decide (a=b):=by
 rw[ly,beq_iff];simp
def bV (a b:Nat):Nat.ble a b=true↔a<=b:=by rw[Nat.ble_eq]
def ble_eq (a b:Nat):Nat.ble a b=decide (a<=b):=by
 rw[ly,bV];simp
def Tr.get_nil (i:Nat):(Tr.nil:Tr J).get i=none:=rfl
def Tr.BI (l r:Tr J) (v:Option J) (i:Nat):(Tr.node l v r).get i=if i=0 then v else if i % 2=1 then l.get (i / 2) else r.get (i / 2-1):=by
 show aQ (Nat.beq i 0) v (aQ (Nat.beq (Nat.mod i 2) 1) (l.get (Nat.div i 2)) (r.get (Nat.sub (Nat.div i 2) 1)))=_;rw[bH,bH,beq_eq,beq_eq];simp only[jX];rfl
def Tr.left {J:Type}:Tr J->Tr J
 | .nil=>.nil
 | .node l _ _=>l
def Tr.right {J:Type}:Tr J->Tr J
 | .nil=>.nil
 | .node _ _ r=>r
def Tr.val {J:Type}:Tr J->Option J
 | .nil=>none
 | .node _ v _=>v
def Tr.Jz (t:Tr J) (i:Nat):t.get i=if i=0 then t.val else if i % 2=1 then t.left.get (i / 2) else t.right.get (i / 2-1):=by
 cases t with
 |nil=>simp[Tr.val,Tr.left,Tr.right,Tr.get_nil]
 |node l v r=>rw[Tr.BI];rfl
def Tr.apb (n:Nat) (t:Tr J) (i:Nat) (x:Option J):Tr.IF (n+1) t i x=
  if i=0 then .node t.left x t.right else if i % 2=1 then .node (Tr.IF n t.left (i / 2) x) t.val t.right else .node t.left t.val (Tr.IF n t.right (i / 2-1) x):=by
 have e:Tr.IF (n+1) t i x=aQ (Nat.beq i 0) (Tr.node t.left x t.right) (aQ (Nat.beq (Nat.mod i 2) 1) (.node (Tr.IF n t.left (Nat.div i 2) x) t.val t.right) (.node t.left t.val (Tr.IF n t.right (Nat.sub (Nat.div i 2) 1) x))):=by
  cases t<;>rfl
 rw[e,bH,bH,beq_eq,beq_eq];simp only[jX];rfl
def Tr.NW {J:Type}:∀(n:Nat) (t:Tr J) (i j:Nat) (x:Option J),i<n->(Tr.IF n t i x).get j=if j=i then x else t.get j
 |0,_,_,_,_,h=>by omega
 |n+1,t,i,j,x,h=>by
  rw[Tr.apb];by_cases h0:i=0
  ·subst h0;rw[aH rfl,Tr.BI];by_cases hj:j=0
   ·simp[hj]
   ·rw[aL hj,aL hj,Tr.Jz t j,aL hj]
  ·rw[aL h0];by_cases h1:i % 2=1
   ·rw[aH h1,Tr.BI,Tr.Jz t j];by_cases hj:j=0
    ·subst hj;rw[aH rfl,aH rfl,aL (by omega)]
    ·rw[aL hj,aL hj];by_cases hj1:j % 2=1
     ·rw[aH hj1,aH hj1,Tr.NW n _ _ _ _ (by omega)]
      by_cases e:j=i
      ·rw[aH e,aH (by omega)]
      ·rw[aL e,aL (by omega)]
     ·rw[aL hj1,aL hj1,aL (by omega)]
   ·rw[aL h1,Tr.BI,Tr.Jz t j];by_cases hj:j=0
    ·subst hj;rw[aH rfl,aH rfl,aL (by omega)]
    ·rw[aL hj,aL hj];by_cases hj1:j % 2=1
     ·rw[aH hj1,aH hj1,aL (by omega)]
     ·rw[aL hj1,aL hj1,Tr.NW n _ _ _ _ (by omega)]
      by_cases e:j=i
      ·rw[aH e,aH (by omega)]
      ·rw[aL e,aL (by omega)]
def Tr.pD (t:Tr J) (i j:Nat) (x:Option J):(t.set i x).get j=if j=i then x else t.get j:=Tr.NW (i+1) t i j x (by omega)
structure Gh where
 η:Nat->Int
 sz:TypeId->Nat
 Z:Nat->Option (Nat×Nat)
 lim:Nat->Nat
 et:Nat->TypeId
 wb:Nat->Option Obj
structure Gh.le (g g':Gh):Prop where
 η:g'.η=g.η
 sz:g'.sz=g.sz
 Z:∀id p,g.Z id=some p->g'.Z id=some p
 lim:∀id p,g.Z id=some p->g'.lim id=g.lim id
 et:∀id p,g.Z id=some p->g'.et id=g.et id
 wb:g'.wb=g.wb
def Gh.le.refl (g:Gh):g.le g:=⟨rfl,rfl,λ_ _ h=>h,λ_ _ _=>rfl,λ_ _ _=>rfl,rfl⟩
def Gh.le.trans {a b c:Gh} (h:a.le b) (k:b.le c):a.le c:=
 ⟨k.η.trans h.η,k.sz.trans h.sz,λid p q=>k.Z id p (h.Z id p q),λid p q=>(k.lim id p (h.Z id p q)).trans (h.lim id p q),λid p q=>(k.et id p (h.Z id p q)).trans (h.et id p q),k.wb.trans h.wb⟩
mutual
inductive VR (g:Gh):Value->SV->Prop
 |bool (b:_):VR g (.bool b) (.bool b)
 |int (k e:_) {n:Int} (h:n=e.ev g.η):VR g (.int k n) (.int k e)
 |str (s:_):VR g (.string s) (.str s)
 |ptr {id off b o:_} (h:g.Z id=some (b,o)):VR g (.pointer (some ⟨b,o+off,none⟩)) (.ptr id off)
 |qe:VR g (.pointer none) .qe
 |sl {id off n b o c:_} {cap:Cp} (h:g.Z id=some (b,o)) (hn:n<=c) (hc:∀m,cap= .k m->c=m) (hl:∀e,cap= .u e->g.et id=e/\off+c*g.sz e<=g.lim id):VR g (.slice (some ⟨b,o+off,none⟩) n c) (.sl id off n cap)
 |sle {a c:_}:VR g (.slice a 0 c) .sle
 |dE:VR g (.slice none 0 0) .dE
 |mp {id b o:_} (h:g.Z id=some (b,o)):VR g (.map (some b)) (.mp id)
 |mu:VR g (.map none) .mu
 |fn {f:FuncId} {first eG:ig} {fs cs:aY} (h1:j8 g first.toList fs) (h2:j8 g eG.toList cs):VR g (.func (.func f) first eG) (.fn (.func f) fs cs)
 |pd:VR g .nilFunc .pd
 |agg {vs:ig} {cs:_} (h:gN g vs.toList cs):VR g (.agg vs) (.agg cs)
 |cS {vs:ig} {cs:_} (h:j8 g vs.toList cs):VR g (.tuple vs) (.cS cs)
 |undef (v:_):VR g v .undef
inductive j8 (g:Gh):fu->aY->Prop
 |nil:j8 g [] []
 |cons {v x vs xs:_} (h:VR g v x) (ht:j8 g vs xs):j8 g (v::vs) (x::xs)
inductive gN (g:Gh):fu->aY->Prop
 |nil:gN g [] []
 |cons {v x vs xs:_} (h1:v.oneCell'=true) (h:VR g v x) (ht:gN g vs xs):gN g (v::vs) (x::xs)
end
mutual
def VR.mono {g g':Gh} (hle:g.le g'):∀{v x},VR g v x->VR g' v x
 |_,_,.bool b=>.bool b
 |_,_,.int k e h=>.int k e (by rw[hle.η];exact h)
 |_,_,.str s=>.str s
 |_,_,.ptr h=>.ptr (hle.Z _ _ h)
 |_,_,.qe=>.qe
 |_,_,.sl h hn hc hl=>.sl (hle.Z _ _ h) hn hc (λe he=>by rw[hle.sz,hle.et _ _ h,hle.lim _ _ h];exact hl e he)
 |_,_,.sle=>.sle
 |_,_,.dE=>.dE
 |_,_,.mp h=>.mp (hle.Z _ _ h)
 |_,_,.mu=>.mu
 |_,_,.fn h1 h2=>.fn (h1.mono hle) (h2.mono hle)
 |_,_,.pd=>.pd
 |_,_,.agg h=>.agg (h.mono hle)
 |_,_,.cS h=>.cS (h.mono hle)
 |_,_,.undef v=>.undef v
def j8.mono {g g':Gh} (hle:g.le g'):∀{v x},j8 g v x->j8 g' v x
 |_,_,.nil=>.nil
 |_,_,.cons h ht=>.cons (h.mono hle) (ht.mono hle)
def gN.mono {g g':Gh} (hle:g.le g'):∀{v x},gN g v x->gN g' v x
 |_,_,.nil=>.nil
 |_,_,.cons h1 h ht=>.cons h1 (h.mono hle) (ht.mono hle)
end
variable {g:Gh} {P:Program}
def gN.length:∀{vs:fu} {cs:aY},gN g vs cs->vs.length=cs.length
 |_,_,.nil=>rfl
 |_,_,.cons _ _ ht=>by simp[ht.length]
def j8.length:∀{vs:fu} {cs:aY},j8 g vs cs->vs.length=cs.length
 |_,_,.nil=>rfl
 |_,_,.cons _ ht=>by simp[ht.length]
def gN.get:∀{vs:fu} {cs:aY},gN g vs cs->∀{j:Nat} {x:SV},cs[j]? =some x->∃v,vs[j]? =some v/\v.oneCell'=true/\VR g v x
 |_,_,.nil,_,_,h=>by simp at h
 |_,_,.cons h1 hd ht,j,x,h=>by
  cases j with
  |zero=>simp at h;subst h;exact ⟨_,rfl,h1,hd⟩
  |succ j=>simp at h;let ⟨v,a,b,c⟩:=ht.get h;exact ⟨v,by simpa using a,b,c⟩
def j8.get:∀{vs:fu} {cs:aY},j8 g vs cs->∀{j:Nat} {x:SV},cs[j]? =some x->∃v,vs[j]? =some v/\VR g v x
 |_,_,.nil,_,_,h=>by simp at h
 |_,_,.cons hd ht,j,x,h=>by
  cases j with
  |zero=>simp at h;subst h;exact ⟨_,rfl,hd⟩
  |succ j=>simp at h;let ⟨v,a,c⟩:=ht.get h;exact ⟨v,by simpa using a,c⟩
def gN.append:∀{vs us:fu} {cs ds:aY},gN g vs cs->gN g us ds->gN g (vs++us) (cs++ds)
 |_,_,_,_,.nil,k=>k
 |_,_,_,_,.cons h1 hd ht,k=>.cons h1 hd (ht.append k)
def j8.append:∀{vs us:fu} {cs ds:aY},j8 g vs cs->j8 g us ds->j8 g (vs++us) (cs++ds)
 |_,_,_,_,.nil,k=>k
 |_,_,_,_,.cons hd ht,k=>.cons hd (ht.append k)
def gN.drop:∀{vs:fu} {cs:aY} (n:Nat),gN g vs cs->gN g (vs.drop n) (cs.drop n)
 |_,_,0,h=>h
 |_,_,n+1,.nil=>by simpa using .nil
 |_,_,n+1,.cons _ _ ht=>by simpa using ht.drop n
def gN.take:∀{vs:fu} {cs:aY} (n:Nat),gN g vs cs->gN g (vs.take n) (cs.take n)
 |_,_,0,_=>by simpa using .nil
 |_,_,n+1,.nil=>by simpa using .nil
 |_,_,n+1,.cons h1 hd ht=>by simpa using .cons h1 hd (ht.take n)
def gN.one:∀{vs:fu} {cs:aY},gN g vs cs->∀v∈vs,v.oneCell'=true
 |_,_,.nil,v,hv=>by simp at hv
 |_,_,.cons h1 _ ht,v,hv=>by
  rcases cH.1 hv with rfl|hv
  ·exact h1
  ·exact ht.one v hv
def gN.mk:∀{vs:fu} {cs:aY},vs.length=cs.length->(∀(j:Nat) (v:Value) (x:SV),vs[j]? =some v->cs[j]? =some x->v.oneCell'=true/\VR g v x)->gN g vs cs
 | [],[],_,_=>.nil
 |v::vs,x::xs,hl,h=>by
  let ⟨a,b⟩:=h 0 v x rfl rfl;exact .cons a b (gN.mk (by simpa using hl) λj v x hv hx=>h (j+1) v x (by simpa using hv) (by simpa using hx))
 | [],_::_,hl,_=>by simp at hl
 |_::_,[],hl,_=>by simp at hl
structure Cells (g:Gh) (w:World) (id b o:Nat) (e:TypeId) (cs:aY):Prop where
 mem:∃cur:ig,w.heap[b]? =some (.cells cur e (0,0))/\o+g.lim id<=cur.size/\∃vs,gN g vs cs/\∀j v,vs[j]? =some v->cur[o+j]? =some v
 et:g.et id=e
def ang (g:Gh) (m:MapEntry) (x:SV×SV×Nat):Prop:=VR g m.key x.1/\VR g m.val x.2.1/\m.born=x.2.2
inductive iI (g:Gh):List MapEntry->ji->Prop
 |nil:iI g [] []
 |cons {m x ms xs:_} (h:ang g m x) (ht:iI g ms xs):iI g (m::ms) (x::xs)
def iI.mono {g g':Gh} (hle:g.le g'):∀{ms:List MapEntry} {xs:ji},iI g ms xs->iI g' ms xs
 |_,_,.nil=>.nil
 |_,_,.cons h ht=>.cons ⟨h.1.mono hle,h.2.1.mono hle,h.2.2⟩ (ht.mono hle)
structure FR (g:Gh) (nt:Nat) (tm:Tf) (tmps:ig):Prop where
 sz:tmps.size=nt
 tm:∀t x,tm t=some x->VR g (tmps.getD t undef) x
def FR.mono {g g':Gh} (hle:g.le g') {tm:Tf} {tmps:ig} (h:FR g nt tm tmps):FR g' nt tm tmps:=⟨h.sz,λt x hx=>(h.tm t x hx).mono hle⟩
def OR (g:Gh) (w:World) (id b o:Nat):SO->Prop
 | .cells e cs=>Cells g w id b o e cs
 | .map es c=>∃ms,w.heap[b]? =some (.map ms c)/\iI g ms.toList es
 | .nF s pos=>o=0/\w.heap[b]? =some (.stringIter s pos)
 | .mapIter mp since seen last=>o=0/\∃(bm:bP) (sa:Array Nat),w.heap[b]? =some (.mapIter bm since sa last)/\sa.toList=seen/\(match mp with|none=>bm=none|some m=>∃x y,bm=some x/\g.Z m=some (x,y))
 | .dfr=>w.heap[b]? =some (.deferred (some []))
 | .ro cs=>∃(cur:ig) (e:TypeId) (fz:Nat×Nat),w.heap[b]? =some (.cells cur e fz)/\g.wb b=some (.cells cur e fz)/\∀j x,cs[j]? =some x->∃v,cur[o+j]? =some v/\(HQ x=false->v.oneCell'=true/\VR g v x)
def Cells.mono {g g':Gh} (hle:g.le g') {id:Nat} {cs:aY} (hρ:g.Z id=some (b,o)) (h:Cells g w id b o e cs) (hw:w'.heap[b]? =w.heap[b]?):Cells g' w' id b o e cs:=by
 let ⟨⟨cur,h1,h0,vs,h2,h3⟩,h4⟩:=h;exact ⟨⟨cur,hw.trans h1,by rw[hle.lim _ _ hρ];exact h0,vs,h2.mono hle,h3⟩,(hle.et _ _ hρ).trans h4⟩
def OR.mono {g g':Gh} (hle:g.le g') {id:Nat} {x:SO} (hρ:g.Z id=some (b,o)) (h:OR g w id b o x) (hw:w'.heap[b]? =w.heap[b]?):OR g' w' id b o x:=by
 cases x with
 |cells e cs=>exact Cells.mono hle hρ h hw
 |map es c=>let ⟨ms,h1,h2⟩:=h;exact ⟨ms,hw.trans h1,h2.mono hle⟩
 |nF s pos=>exact ⟨h.1,hw.trans h.2⟩
 |mapIter mp since seen last=>
  let ⟨h0,bm,sa,h1,h2,h3⟩:=h;refine ⟨h0,bm,sa,hw.trans h1,h2,?_⟩;cases mp with
  |none=>exact h3
  |some m=>let ⟨x,y,e1,e2⟩:=h3;exact ⟨x,y,e1,hle.Z _ _ e2⟩
 |dfr=>exact hw.trans h
 |ro cs=>
  let ⟨cur,e,fz,h1,h0,h2⟩:=h;refine ⟨cur,e,fz,hw.trans h1,(congrFun hle.wb b).trans h0,λj x hx=> ?_⟩
  let ⟨v,a,b⟩:=h2 j x hx;exact ⟨v,a,λhu=>⟨(b hu).1,(b hu).2.mono hle⟩⟩
structure HR (g:Gh) (hp:Hf) (w:World):Prop where
 ob:∀id o,hp id=some o->∃b c,g.Z id=some (b,c)/\b<w.heap.size/\OR g w id b c o
 inj:∀i j x y b c d,hp i=some x->hp j=some y->g.Z i=some (b,c)->g.Z j=some (b,d)->i=j
def amG (g:Gh) (hp:Hf) (b:Nat):Prop:=∃id o c,hp id=some o/\g.Z id=some (b,c)
structure Fr (g:Gh) (hp:Hf) (w:World) (g':Gh) (yV:Hf) (w':World):Prop where
 os:w'.os=w.os
 tape:w'.tape=w.tape
 output:w'.output=w.output
 size:w.heap.size<=w'.heap.size
 le:g.le g'
 old:∀b,b<w.heap.size->¬amG g hp b->w'.heap[b]? =w.heap[b]?
 own:∀b,b<w.heap.size->amG g' yV b->amG g hp b
def Fr.refl (g:Gh) (hp:Hf) (w:World):Fr g hp w g hp w:=⟨rfl,rfl,rfl,dg _,.refl _,λ_ _ _=>rfl,λ_ _ h=>h⟩
def Fr.trans {g g1 g2:Gh} {h h1 h2:Hf} {w1 w2:World} (a:Fr g h w g1 h1 w1) (b:Fr g1 h1 w1 g2 h2 w2):Fr g h w g2 h2 w2:=
 ⟨b.os.trans a.os,b.tape.trans a.tape,b.output.trans a.output,jj a.size b.size,a.le.trans b.le,
  λk hk hn=>(b.old k (mC hk a.size) (λhm=>hn (a.own k hk hm))).trans (a.old k hk hn),
  λk hk hm=>a.own k hk (b.own k (mC hk a.size) hm)⟩
end
def CD {e:SI} (h:Vg e=some n):e= .lit (.ofNat n):=by
 unfold Vg at h;split at h
 ·simp at h;subst h;rfl
 ·simp at h
def uc {x:SV} (h:kX x=some n):∃k,x= .int k (.lit (.ofNat n)):=by
 cases x<;>first|(exact ⟨_,by rw[CD h]⟩)|cases h
def uS {x:SV} {b:Bool} (h:oU x=some b):x= .bool b:=by cases x<;>cases h<;>rfl
def rH {x:SV} {p:IntKind×SI} (h:intOf x=some p):x= .int p.1 p.2:=by cases x<;>cases h<;>rfl
def mV {x:SV} (h:strOf x=some s):x= .str s:=by cases x<;>cases h<;>rfl
def oe {x:SV} (h:vd x=some q):x= .ptr q.1 q.2:=by cases x<;>cases h<;>rfl
def Ar {x:SV} {cs:aY} (h:G9 x=some cs):x= .agg cs:=by cases x<;>cases h<;>rfl
def ajI {x:SV} {cs:aY} (h:OI x=some cs):x= .cS cs:=by cases x<;>cases h<;>rfl
def Wu {x:SV} (h:atO x=some i):x= .mp i:=by cases x<;>cases h<;>rfl
def aoY {x:SV} {q:Nat×Nat×Nat×Cp} (h:atn x=some q):x= .sl q.1 q.2.1 q.2.2.1 q.2.2.2:=by cases x<;>cases h<;>rfl
def Wz {x:SV} (h:Vi x=some n):(∃i o c,x= .sl i o n c)\/(x= .dE/\n=0)\/(x= .sle/\n=0):=by
 cases x<;>first|(cases h;exact .inl ⟨_,_,_,rfl⟩)|(cases h;exact .inr (.inl ⟨rfl,rfl⟩))|(cases h;exact .inr (.inr ⟨rfl,rfl⟩))|cases h
def akG {x y:SV} (h:PA x=some y):y=x/\((∃i o,x= .ptr i o)\/∃f a c,x= .fn f a c):=by
 cases x<;>first|(cases h;exact ⟨rfl,.inl ⟨_,_,rfl⟩⟩)|(cases h;exact ⟨rfl,.inr ⟨_,_,_,rfl⟩⟩)|cases h
def uG {d:UD} (h:qP d=some e):d= .slice e:=by cases d<;>cases h<;>rfl
def Iv {d:UD} {fs:List FL} (h:xD d=some fs):d= .struct fs:=by cases d<;>cases h<;>rfl
def I2 {d:UD} {q:TypeId×TypeId} (h:Bm d=some q):d= .map q.1 q.2:=by cases d<;>cases h<;>rfl
def agn {d:UD} (h:EF d=true):d= .string:=by cases d<;>cases h<;>rfl
def abp {d:UD} (h:LH d=true):d= .bool:=by cases d<;>cases h<;>rfl
def kU {o:Option SO} {p:TypeId×aY} (h:nq o=some p):o=some (.cells p.1 p.2):=by
 unfold nq at h;split at h
 ·simp at h;subst h;rfl
 ·simp at h
def yM {o:Option SO} {p:ji×Nat} (h:j2 o=some p):o=some (.map p.1 p.2):=by
 unfold j2 at h;split at h
 ·simp at h;subst h;rfl
 ·simp at h
def PQ {o:Option SO} (h:LG o=some p):o=some (.nF p.1 p.2):=by
 unfold LG at h;split at h
 ·simp at h;subst h;rfl
 ·simp at h
def nn {a b:IntKind} (h:gI a b=true):a=b:=by
 cases a<;>cases b<;>first|rfl|(simp[gI] at h)
def akQ (a:IntKind):gI a a=true:=by cases a<;>rfl
def AM (a b:Int):GA a b=decide (a=b):=by
 cases a<;>cases b<;>simp[GA,beq_eq]
 rename_i m n;exact ⟨λh=>by rw[h],λh=>SW h⟩
def vw (a b:Int):Aj a b=decide (a<b):=by
 cases a<;>cases b<;>simp only[Aj,ble_eq,Ky]
 ·rename_i m n;simp only[DU];omega
 ·rename_i m n;simp only[eq_comm (a:=false),decide_eq_false_iff_not,DU];omega
 ·rename_i m n;simp only[eq_comm (a:=true),jX,DU];omega
 ·rename_i m n;omega
def J8 (P:Program) (t:TypeId):UD->Prop
 | .bool=>P.underlying t=some .bool
 | .int k=>P.underlying t=some (.int k)
 | .string=>P.underlying t=some .string
 | .pointer=>∃e,P.underlying t=some (.pointer e)
 | .slice e=>P.underlying t=some (.slice e)
 | .array n e=>P.underlying t=some (.array n e)
 | .map k e=>P.underlying t=some (.map k e)
 | .struct fs=>∃a:Array Field,P.underlying t=some (.struct a)/\a.toList.map (λf=>FL.mk f.type f.offset (decide (f.name≠ "_")))=fs/\∀f∈a.toList,(P.info? f.type).isSome=true
 | .func=>∃a b c,P.underlying t=some (.func a b c)
 | .interface=>∃ms,P.underlying t=some (.interface ms)
 | .other=>False
def acT (agg:Bool) (z:Value) (cs:aY):Prop:=
 (∀g,gN g z.cells.toList cs)/\(agg=true->∃a,z= .agg a)/\(agg=false->z.oneCell'=true)
structure BX (P:Program) (t:TypeId) (i:TI):Prop where
 desc:J8 P t i.desc
 info:∃f z,P.info? t=some f/\f.size=i.size/\f.bytes=i.bytes/\f.comparable=i.comparable/\f.zero=some z/\acT (l5 i.desc) z i.zero/\(l5 i.desc=true->i.zero.length=i.size)
structure dW (E:Env) (g:Gh):Prop where
 ty:∀t i,E.ty.get t=some i->BX E.P t i
 fn:∀f x,E.fn.get f=some x->E.P.funcs[f]? =some x
 lt:∀a b r,(a,b,r)∈E.lt->decide (a.ev g.η<b.ev g.η)=r
 eq:∀a b r,(a,b,r)∈E.eq->decide (a.ev g.η=b.ev g.η)=r
 mix:E.P.follows .mixedOrders=true
 sz:∀t,g.sz t=E.P.cellsOf t
def dW.mono {E:Env} {g g':Gh} (h:dW E g) (hle:g.le g'):dW E g':=
 ⟨h.ty,h.fn,λa b r hm=>by rw[hle.η];exact h.lt a b r hm,λa b r hm=>by rw[hle.η];exact h.eq a b r hm,h.mix,λt=>by rw[hle.sz];exact h.sz t⟩
def dW.size {E:Env} {g:Gh} (h:dW E g) {i:TI} (hi:E.ty.get t=some i):g.sz t=i.size:=by
 let ⟨f,z,h1,h2,_⟩:=(h.ty t i hi).info;rw[h.sz,Program.cellsOf,h1];simpa using h2
def xR {E:Env} {g:Gh} (hE:dW E g) {a b:SI} {r:Bool} (h:CF E a b=some r):decide (a.ev g.η<b.ev g.η)=r:=by
 unfold CF at h;split at h
 ·simp at h;subst h;rw[vw];rfl
def N1 {E:Env} {g:Gh} (hE:dW E g) {a b:SI} {r:Bool} (h:eqI E a b=some r):decide (a.ev g.η=b.ev g.η)=r:=by
 unfold eqI at h;split at h
 ·simp at h;subst h;rw[AM];rfl
def Qq:∀(a b:List UInt8),sg a b=decide (a=b)
 | [],[]=>by simp[sg]
 | [],_::_=>by simp[sg]
 |_::_,[]=>by simp[sg]
 |a::l,b::m=>by
  rw[sg,Qq l m,beq_eq,ly];simp only[bF,jX,List.cons.injEq];rw[<-UInt8.toNat_inj]
def vI (a b:ByteArray):Dk a b=decide (a=b):=by
 unfold Dk;rw[Qq,Ky];constructor
 ·intro h;cases a with|mk a=>cases b with|mk b=>simp at h;simp[h]
 ·intro h;rw[h]
def Bc {J:Type} {P:Program}:∀{s:Sem J} {a:J},nJ P s=some a->∀w,s.run P w= .ok a w
 | .pure a,_,h,w=>by simp[nJ] at h;subst h;rfl
 | .program k,a,h,w=>Bc (s:=k P) h w
 | .load ..,_,h,_| .store ..,_,h,_| .new ..,_,h,_| .shape ..,_,h,_| .freeze ..,_,h,_| .frozen ..,_,h,_| .getObj ..,_,h,_| .setObj ..,_,h,_| .choose ..,_,h,_| .sys ..,_,h,_| .mark ..,_,h,_| .halt _,_,h,_=>by simp[nJ] at h
mutual
def wH (g:Gh):∀(v:Value),VR g v (ue v)
 | .bool b=>.bool b
 | .int k n=>.int k _ rfl
 | .string s=>.str s
 | .pointer none=>.qe
 | .pointer (some _)=>.undef _
 | .slice none 0 0=>.dE
 | .slice none 0 (_+1)=>.undef _
 | .slice none (_+1) _=>.undef _
 | .slice (some _) _ _=>.undef _
 | .map none=>.mu
 | .map (some _)=>.undef _
 | .nilFunc=>.pd
 | .agg ⟨cs⟩=>by
  unfold ue;rw[bH];split
  ·rename_i hc;refine .agg ?_;have hr:=DF g cs;refine gN.mk hr.length λj v x hv hx=> ?_
   let ⟨u,hu,hd⟩:=hr.get hx;have hv:cs[j]? =some v:=hv;rw[hv] at hu;obtain rfl:v=u:=by simpa using hu
   exact ⟨iJ.1 hc v (cT hv),hd⟩
  ·exact .undef _
 | .tuple ⟨cs⟩=>.cS (DF g cs)
 | .float _ _| .complex _ _ _| .chan _| .func _ _ _| .iface _ _| .nilIface=>.undef _
def DF (g:Gh):∀(vs:fu),j8 g vs (rM vs)
 | []=>.nil
 |v::vs=>.cons (wH g v) (DF g vs)
end
section
variable {E:Env} {g:Gh} {w:World}
variable {P:Program}
def Ad {i:TI} (h:BX P t i) (w:World):(isAgg t).run P w= .ok (l5 i.desc) w:=by
 have hd:=h.desc;generalize i.desc=d at hd;cases d<;>simp only[J8] at hd
 case pointer=>let ⟨e,he⟩:=hd;simp only[isAgg,Sem.run_bind,run_underlying he,Result.andThen_ok];rfl
 case struct=>let ⟨e,he,_⟩:=hd;simp only[isAgg,Sem.run_bind,run_underlying he,Result.andThen_ok];rfl
 case func=>let ⟨_,_,_,he⟩:=hd;simp only[isAgg,Sem.run_bind,run_underlying he,Result.andThen_ok];rfl
 case interface=>let ⟨e,he⟩:=hd;simp only[isAgg,Sem.run_bind,run_underlying he,Result.andThen_ok];rfl
 all_goals (simp only[isAgg,Sem.run_bind,run_underlying hd,Result.andThen_ok];rfl)
def oF {i:TI} (h:BX P t i) (w:World):(sizeOf t).run P w= .ok i.size w:=by
 let ⟨f,z,h1,h2,_⟩:=h.info;simp[sizeOf,typeInfo,h1,h2]
def aap {i:TI} (h:BX P t i):∃z,(∀w,(zeroValue t).run P w= .ok z w)/\acT (l5 i.desc) z i.zero/\(l5 i.desc=true->i.zero.length=i.size):=by
 let ⟨f,z,h1,_,_,_,h5,h6⟩:=h.info;exact ⟨z,λw=>by simp[zeroValue,typeInfo,h1,h5],h6⟩
def Ae {i:TI} (hi:BX P t i) {cs:aY} {x:SV} {vs:ig} (h:ij i cs off=some x) (hc:gN g vs.toList cs) (w:World):
  ∃v,(part t vs off).run P w= .ok v w/\VR g v x:=by
 unfold ij at h;rw[bH] at h;split at h
 ·rename_i ha;let ⟨hl,h⟩:=aV h;simp at h;subst h;refine ⟨.agg (vs.extract off (off+i.size)),?_,.agg ?_⟩
  ·simp only[part,Sem.run_bind,Ad hi,Result.andThen_ok,ha,aB,oF hi,Sem.run_pure]
  ·have:(vs.extract off (off+i.size)).toList=(vs.toList.drop off).take i.size:=by simp[List.extract_eq_take_drop]
   rw[this];exact (hc.drop off).take _
 ·rename_i ha;let ⟨v,hv,_,hd⟩:=hc.get h;refine ⟨v,?_,hd⟩;have HS:vs[off]? =some v:=by simpa using hv
  have ha:l5 i.desc=false:=by simpa using ha
  simp only[part,Sem.run_bind,Ad hi,Result.andThen_ok,ha,aC,aA,HS,Sem.run_pure]
def akB {i:TI} (hz:acT (l5 i.desc) z i.zero) (hl:l5 i.desc=true->i.zero.length=i.size) {x:SV} (h:ij i i.zero 0=some x):VR g z x:=by
 unfold ij at h;rw[bH] at h;let ⟨h1,h2,h3⟩:=hz;split at h
 ·rename_i ha;let ⟨_,h⟩:=aV h;simp at h;subst h;obtain ⟨a,rfl⟩:=h2 ha;rw[<-hl ha,xx];exact .agg (h1 g)
 ·rename_i ha;have ho:=h3 (by simpa using ha)
  let ⟨v,hv,_,hd⟩:=(h1 g).get h;have:z.cells= #[z]:=by cases z<;>first|rfl|(simp[Value.oneCell'] at ho)
  rw[this] at hv;simp at hv;subst hv;exact hd
def VR.je {x:SV} {cs:aY} (h:VR g v x) (hx:x.cells=some cs):gN g v.cells.toList cs:=by
 cases h with
 |agg h=>cases hx;exact h
 |cS h=>cases hx
 |undef v=>cases hx
 |bool b=>cases hx;exact .cons rfl (.bool b) .nil
 |int k e h=>cases hx;exact .cons rfl (.int k e h) .nil
 |str s=>cases hx;exact .cons rfl (.str s) .nil
 |ptr h=>cases hx;exact .cons rfl (.ptr h) .nil
 |qe=>cases hx;exact .cons rfl .qe .nil
 |sl a b c d=>cases hx;exact .cons rfl (.sl a b c d) .nil
 |sle=>cases hx;exact .cons rfl .sle .nil
 |dE=>cases hx;exact .cons rfl .dE .nil
 |mp h=>cases hx;exact .cons rfl (.mp h) .nil
 |mu=>cases hx;exact .cons rfl .mu .nil
 |fn a b=>cases hx;exact .cons rfl (.fn a b) .nil
 |pd=>cases hx;exact .cons rfl .pd .nil
def ot {tm:Tf} (h:FR g nt tm a.tmps) {v:SV} (hv:cE tm x=some v):VR g (a.eval x) v:=by
 cases x with
 |tmp t=>exact h.tm t v hv
 |const u=>cases hv;exact wH g u
 |global _=>cases hv
 |func f=>cases hv;exact .fn .nil .nil
def yG {nt:Nat} {tm:Tf} {a:Act} (h:FR g nt tm a.tmps):∀{xs:List Operand} {vs:aY},fT tm xs=some vs->j8 g (xs.map a.eval) vs
 | [],_,hv=>by cases hv;exact .nil
 |x::xs,vs,hv=>by
  let ⟨v,l,h1,h2,h3⟩:=bp hv;cases h3;exact .cons (ot h h1) (yG h h2)
def acO {r k:Option Bool} {b:Bool} (h:andThen r k=some b):(r=some true/\k=some b)\/(r=some false/\b=false):=by
 cases r with
 |none=>simp[andThen] at h
 |some c=>cases c<;>simp[andThen] at h<;>simp[h]
def WD {E:Env} (hE:dW E g) {eq:TypeId->SV->SV->Option Bool} {m:Nat} (heq:∀(t:TypeId) (x y:SV) (b:Bool),eq t x y=some b->∀(u v:Value),VR g u x->VR g v y->∀w,(Op.equalIn m t u v).run E.P w= .ok b w)
  {us vs:ig} {xs ys:aY} (hx:gN g us.toList xs) (hy:gN g vs.toList ys):∀(l:List Field) (b:Bool),GU E eq xs ys (l.map λf=>FL.mk f.type f.offset (decide (f.name≠ "_")))=some b->∀w,(Op.eqFields m us vs l).run E.P w= .ok b w
 | [],b,h,w=>by cases h;simp[Op.eqFields]
 |f::l,b,h,w=>by
  simp only[jc,GU] at h;let ⟨hn,h⟩:=aV h;let ⟨i,hi,h⟩:=aq h;let ⟨x,y,hpx,hpy,h⟩:=bp h;have P1:f.name≠ "_" :=by simpa using hn
  let ⟨v1,xf,xl⟩:=Ae (hE.ty _ _ hi) hpx hx w;let ⟨v2,hr2,HV⟩:=Ae (hE.ty _ _ hi) hpy hy w;rcases acO h with ⟨h1,h2⟩|⟨h1,rfl⟩
  ·have he:=heq _ _ _ _ h1 v1 v2 xl HV w;simp only[Op.eqFields,aH P1,Sem.run_bind,xf,hr2,he,Result.andThen_ok,Sem.run_ite,Sem.run_pure];simpa using WD hE heq hx hy l b h2 w
  ·have he:=heq _ _ _ _ h1 v1 v2 xl HV w;simp only[Op.eqFields,aH P1,Sem.run_bind,xf,hr2,he,Result.andThen_ok,Sem.run_ite,Sem.run_pure];simp
def acm {E:Env} (hE:dW E g):∀(n:Nat) (t:TypeId) (x y:SV) (b:Bool),eqT E n t x y=some b->∀(u v:Value),VR g u x->VR g v y->∀(d:Nat) (w:World),(Op.equalIn (n+d) t u v).run E.P w= .ok b w
 |0,_,_,_,_,h=>by cases h
 |n+1,t,x,y,b,h=>by
  intro u v hu hv d w;have xg:n+1+d=(n+d)+1:=by omega
  rw[xg];let ⟨i,hi,h⟩:=aq (show az (E.ty.get t) (λi=>eqD i.desc E (eqT E n) t x y)=some b from h)
  have hT:=hE.ty t i hi;have hd:=hT.desc;generalize i.desc=D at hd h;cases D with
  |bool=>
   let ⟨p,q,h1,h2,h3⟩:=bp (show bT (oU x) (oU y) _=some b from h);obtain rfl:=uS h1;obtain rfl:=uS h2;cases hu;cases hv;cases h3;exact run_equalIn_bool' w _ t _ _ hd
  |int k=>
   let ⟨p,q,h1,h2,h3⟩:=bp (show bT (intOf x) (intOf y) _=some b from h);let ⟨hk,h3⟩:=aV h3;obtain rfl:=rH h1;obtain rfl:=rH h2;have hk:=nn hk;have hb:=N1 hE h3;cases hu with|int _ _ e1=>cases hv with|int _ _ e2=>
   rw[hk,run_equalIn_int w _ t _ _ _ _ hd,e1,e2,<-hb];congr 1
  |string=>
   let ⟨p,q,h1,h2,h3⟩:=bp (show bT (strOf x) (strOf y) _=some b from h);obtain rfl:=mV h1;obtain rfl:=mV h2;cases hu;cases hv;cases h3;rw[run_equalIn_string w _ t _ _ hd,vI];congr 1;rw[ByteArray.toList_eq,ByteArray.toList_eq,ly];simp only[qI,jX];constructor
   ·intro h;cases p with|mk a=>cases q with|mk c=>simp at h;simp[h]
   ·intro h;rw[h]
  |pointer=>
   let ⟨e,hd⟩:=hd;have h:alC x y=some b:=h;unfold alC at h;split at h<;>first|(cases hu;cases hv;cases h;simp[Op.equalIn,run_underlying hd];done)|(simp at h)
  |slice e=>
   have h:avk x y=some b:=h;unfold avk at h;split at h<;>first|(cases hu;cases hv;cases h;simp[Op.equalIn,run_underlying hd];done)|(simp at h)
  |array _ _=>cases h
  |map _ _=>
   have h:alD x y=some b:=h;unfold alD at h;split at h<;>first|(cases hu;cases hv;cases h;simp[Op.equalIn,run_underlying hd];done)|(simp at h)
  |struct fs=>
   let ⟨a,hd,Jm,_⟩:=hd;let ⟨p,h1,h2⟩:=aq (show az (asd x y) _=some b from h);let ⟨xs,ys,h3,h4,h5⟩:=bp h1;cases h5;obtain rfl:=Ar h3;obtain rfl:=Ar h4;rw[bH] at h2;split at h2
   ·simp at h2
   ·rename_i hp;have hp:E.P.stoodInHeld t=false:=by simpa using hp
    cases hu with|agg hx=>cases hv with|agg hy=>
    have hf:E.P.fieldsOf t=a:=by simp[Program.fieldsOf,hd]
    rw[run_equalIn_struct w _ t _ _ (by rw[hf];exact hd) hp,hf]
    subst Jm;exact WD hE (λt x y b h u v hu hv w=>acm hE n t x y b h u v hu hv d w) hx hy a.toList b h2 w
  |func=>
   let ⟨_,_,_,hd⟩:=hd;have h:avn x y=some b:=h;unfold avn at h;split at h<;>first|(cases hu;cases hv;cases h;simp[Op.equalIn,run_underlying hd];done)|(simp at h)
  |interface=>cases (show none=some b from h)
  |other=>exact hd.elim
end
section
variable {E:Env} {g:Gh} {w:World}
variable {P:Program} {y oy:Operand} {dst:TypeId}
def aCL (η:Nat->Int) (k:IntKind) (a b:SI):(acS k a b).ev η=k.wrap (a.ev η+b.ev η):=by
 unfold acS;split<;>rfl
def agC (η:Nat->Int) (k:IntKind) (a b:SI):(Nq k a b).ev η=k.wrap (a.ev η - b.ev η):=by
 unfold Nq;split<;>rfl
def avF (η:Nat->Int) (k:IntKind) (a:SI):(XO k a).ev η=k.wrap (a.ev η):=by
 unfold XO;split<;>rfl
def DE {op:BinOp} {a b:Value} (h:P.eqGuardType P.depth t=false\/(∀cs,a≠ .agg cs)) (h2:a≠ .nilIface\/(isConst x||isConst y)=true) (w:World):(eqGuard op t x y a b).run P w= .ok () w:=by
 cases a<;>first
  |(cases op<;>rfl)
  |(
   rcases h2 with h2|h2
   ·exact absurd rfl h2
   ·cases b<;>first
     |(cases op<;>rfl)
     |(cases op<;>first|rfl|(cases x<;>cases y<;>first|rfl|(simp[isConst] at h2)))
   )
  |(
   rcases h with h|h
   ·cases b<;>first|(cases op<;>rfl)|exact run_eqGuard_agg w op t x y _ _ h
   ·exact absurd rfl (h _))
def pW {r:Option Bool} {z:SV} (h:kZ neg r=some z):∃b,r=some b/\z= .bool (if neg then !b else b):=by
 let ⟨b,h1,h2⟩:=aq h;cases h2;exact ⟨b,h1,by cases neg<;>rfl⟩
def Pp {r:Option Value} {z:SV} (h:Gl r=some z):∃v,r=some v/\z=ue v:=by
 let ⟨v,h1,h2⟩:=aq h;cases h2;exact ⟨v,h1,rfl⟩
def aru (E:Env) (eq:TypeId->SV->SV->Option Bool) (t:TypeId) (d:UD) (y:SV):eqD d E eq t .undef y=none:=by
 cases d<;>rfl
def art (E:Env) (n:Nat) (t:TypeId) (y:SV):eqT E n t .undef y=none:=by
 cases n with
 |zero=>rfl
 |succ n=>
  show az (E.ty.get t) (λi=>eqD i.desc E (eqT E n) t .undef y)=none
  cases E.ty.get t with
  |none=>rfl
  |some i=>exact aru _ _ _ _ _
def akK {op:BinOp} {k k':IntKind} {a b:SI} {z:SV} (h:XB E op t k k' a b=some z):∃m n v,a= .lit m/\b= .lit n/\nJ E.P (binOp op t (.int k m) (.int k' n))=some v/\z=ue v:=by
 unfold XB at h;split at h
 ·rename_i m n;let ⟨v,h1,h2⟩:=Pp h;exact ⟨m,n,v,rfl,rfl,h1,h2⟩
def arf (x y:Int):(x==y)=decide (x=y):=by rw[ly];simp
def decLe (x y:Int):decide (x<=y)= !decide (y<x):=by rw[ly];simp
def VR.C0 {b c:Bool} (h:b=c):VR g (.bool b) (.bool c):=by subst h;exact .bool b
def akV (hE:dW E g) {op:BinOp} {k k':IntKind} {a b:SI} {z:SV} (h:akW op E op t k k' a b=some z) (w:World):
  ∃r,(binOp op t (.int k (a.ev g.η)) (.int k' (b.ev g.η))).run E.P w= .ok r w/\VR g r z:=by
 have lit:XB E op t k k' a b=some z->∃r,(binOp op t (.int k (a.ev g.η)) (.int k' (b.ev g.η))).run E.P w= .ok r w/\VR g r z:=by
  intro h;obtain ⟨m,n,v,rfl,rfl,h1,rfl⟩:=akK h;exact ⟨v,Bc h1 w,wH g v⟩
 cases op with
 |add=>
  let ⟨hk,h⟩:=aV (show aQ (gI k k') (some (SV.int k (acS k a b))) none=some z from h);cases h;obtain rfl:=nn hk;exact ⟨_,by simp[binOp,Op.intArith]<;>rfl,.int _ _ (aCL _ _ _ _).symm⟩
 |sub=>
  let ⟨hk,h⟩:=aV (show aQ (gI k k') (some (SV.int k (Nq k a b))) none=some z from h);cases h;obtain rfl:=nn hk;exact ⟨_,by simp[binOp,Op.intArith]<;>rfl,.int _ _ (agC _ _ _ _).symm⟩
 |eql=>
  let ⟨hk,h⟩:=aV (show aQ (gI k k') (kZ false (eqI E a b)) none=some z from h);obtain ⟨c,h1,rfl⟩:=pW h;obtain rfl:=nn hk;exact ⟨_,by simp[binOp,Op.intCmp]<;>rfl,VR.C0 (by have:=N1 hE h1;rw[arf,this];rfl)⟩
 |neq=>
  let ⟨hk,h⟩:=aV (show aQ (gI k k') (kZ true (eqI E a b)) none=some z from h);obtain ⟨c,h1,rfl⟩:=pW h;obtain rfl:=nn hk;exact ⟨_,by simp[binOp,Op.intCmp]<;>rfl,VR.C0 (by have:=N1 hE h1;rw[<-this,<-arf];rfl)⟩
 |lss=>
  let ⟨hk,h⟩:=aV (show aQ (gI k k') (kZ false (CF E a b)) none=some z from h);obtain ⟨c,h1,rfl⟩:=pW h;obtain rfl:=nn hk;exact ⟨_,by simp[binOp,Op.intCmp]<;>rfl,VR.C0 (by have:=xR hE h1;simpa using this)⟩
 |gtr=>
  let ⟨hk,h⟩:=aV (show aQ (gI k k') (kZ false (CF E b a)) none=some z from h);obtain ⟨c,h1,rfl⟩:=pW h;obtain rfl:=nn hk;exact ⟨_,by simp[binOp,Op.intCmp]<;>rfl,VR.C0 (by have:=xR hE h1;simpa using this)⟩
 |leq=>
  let ⟨hk,h⟩:=aV (show aQ (gI k k') (kZ true (CF E b a)) none=some z from h);obtain ⟨c,h1,rfl⟩:=pW h;obtain rfl:=nn hk;exact ⟨_,by simp[binOp,Op.intCmp]<;>rfl,VR.C0 (by have:=xR hE h1;rw[<-this];first|exact decLe _ _|(rw[<-decLe];rfl))⟩
 |geq=>
  let ⟨hk,h⟩:=aV (show aQ (gI k k') (kZ true (CF E a b)) none=some z from h);obtain ⟨c,h1,rfl⟩:=pW h;obtain rfl:=nn hk;exact ⟨_,by simp[binOp,Op.intCmp]<;>rfl,VR.C0 (by have:=xR hE h1;rw[<-this];first|exact decLe _ _|(rw[<-decLe];rfl))⟩
 |_=>exact lit h
def ajM {op:BinOp} {a b:ByteArray} {z:SV} (h:ajN op E op t a b=some z) (w:World):
  ∃r,(binOp op t (.string a) (.string b)).run E.P w= .ok r w/\VR g r z:=by
 have lit:Gl (nJ E.P (binOp op t (.string a) (.string b)))=some z->∃r,(binOp op t (.string a) (.string b)).run E.P w= .ok r w/\VR g r z:=by
  intro h;obtain ⟨v,h1,rfl⟩:=Pp h;exact ⟨v,Bc h1 w,wH g v⟩
 have hb:(a.toList==b.toList)=decide (a=b):=by
  rw[ByteArray.toList_eq,ByteArray.toList_eq,ly];simp only[qI,jX];constructor
  ·intro h;cases a with|mk a=>cases b with|mk c=>simp at h;simp[h]
  ·intro h;rw[h]
 cases op with
 |eql=>cases h;exact ⟨_,by simp[binOp,Op.stringOp]<;>rfl,VR.C0 (by rw[vI];simpa using hb)⟩
 |neq=>cases h;exact ⟨.bool (!(a.toList==b.toList)),by simp[binOp,Op.stringOp,bne],VR.C0 (by rw[vI,hb])⟩
 |_=>exact lit h
def Xp {a b:Value} (h1:∀k n,a≠ .int k n) (h2:∀k n,a≠ .float k n) (h3:∀k n m,a≠ .complex k n m) (h4:∀s,a≠ .string s) (w:World):
  (binOp .eql t a b).run P w=((Op.equalIn 10000 t a b).run P w).andThen λr w'=>.ok (.bool r) w':=by
 cases a<;>first|exact absurd rfl (h1 _ _)|exact absurd rfl (h2 _ _)|exact absurd rfl (h3 _ _ _)|exact absurd rfl (h4 _)|(simp only[binOp];simp[Op.equal,Op.maxDepth])
def Xo {a b:Value} (h1:∀k n,a≠ .int k n) (h2:∀k n,a≠ .float k n) (h3:∀k n m,a≠ .complex k n m) (h4:∀s,a≠ .string s) (w:World):
  (binOp .neq t a b).run P w=((Op.equalIn 10000 t a b).run P w).andThen λr w'=>.ok (.bool (!r)) w':=by
 cases a<;>first|exact absurd rfl (h1 _ _)|exact absurd rfl (h2 _ _)|exact absurd rfl (h3 _ _ _)|exact absurd rfl (h4 _)|(simp only[binOp];simp[Op.equal,Op.maxDepth])
def aaQ (hE:dW E g) {op:BinOp} {x y z:SV} (hx:∀k e,x≠ .int k e) (hs:∀s,x≠ .str s) (h:U9 op E t ox oy x y=some z) (hu:VR g u x) (hv:VR g v y) (w:World):
  ∃r,(do eqGuard op t ox oy u v;binOp op t u v:Sem Value).run E.P w= .ok r w/\VR g r z:=by
 have key:∀b,GS E t ox oy x y=some b->(eqGuard op t ox oy u v).run E.P w= .ok () w/\(∀w,(binOp .eql t u v).run E.P w= .ok (.bool b) w)/\(∀w,(binOp .neq t u v).run E.P w= .ok (.bool (!b)) w):=by
  intro b he;let ⟨js,he⟩:=aV he;have ln:=λw=>acm hE 20 t x y b he u v hu hv 9980 w
  simp only[show 20+9980=10000 from rfl] at ln;have hnu:x≠ .undef:=λe=>by rw[e,art] at he;simp at he
  have aFn:(∀k n,u≠ .int k n)/\(∀k n,u≠ .float k n)/\(∀k n m,u≠ .complex k n m)/\(∀s,u≠ .string s)/\(E.P.eqGuardType E.P.depth t=false\/(∀cs,u≠ .agg cs))/\(u≠ .nilIface\/(isConst ox||isConst oy)=true):=by
   cases hu<;>first|exact absurd rfl (hx _ _)|exact absurd rfl (hs _)|exact absurd rfl hnu|(simp;done)|(simp[avm] at js;simp[js])
  let ⟨f1,f2,f3,f4,f5,f6⟩:=aFn;refine ⟨DE f5 f6 w,λw=> ?_,λw=> ?_⟩
  ·rw[Xp f1 f2 f3 f4,ln];rfl
  ·rw[Xo f1 f2 f3 f4,ln];rfl
 cases op with
 |eql=>
  obtain ⟨b,h1,rfl⟩:=pW (show kZ false (GS E t ox oy x y)=some z from h);let ⟨k1,k2,k3⟩:=key b h1;exact ⟨.bool b,by simp only[Sem.run_bind,k1,Result.andThen_ok,k2],.bool b⟩
 |neq=>
  obtain ⟨b,h1,rfl⟩:=pW (show kZ true (GS E t ox oy x y)=some z from h);let ⟨k1,k2,k3⟩:=key b h1;exact ⟨.bool (!b),by simp only[Sem.run_bind,k1,Result.andThen_ok,k3],.bool (!b)⟩
 |_=>cases h
def arL (hE:dW E g) {op:BinOp} {x y z:SV} (h:JR E op t ox oy x y=some z) (hu:VR g u x) (hv:VR g v y) (w:World):
  ∃r,(do eqGuard op t ox oy u v;binOp op t u v:Sem Value).run E.P w= .ok r w/\VR g r z:=by
 by_cases hx:∃k e,x= .int k e
 ·obtain ⟨k,a,rfl⟩:=hx;let ⟨p,h1,h2⟩:=aq (show az (intOf y) (λp=>akW op E op t k p.1 a p.2)=some z from h)
  obtain rfl:=rH h1;cases hu with|int _ _ e1=>cases hv with|int _ _ e2=>
  subst e1;subst e2;let ⟨r,q1,q2⟩:=akV hE h2 w;exact ⟨r,by rw[Sem.run_bind,DE (P:=E.P) (a:=.int k (a.ev g.η)) (.inr (by simp)) (.inl (by simp))];exact q1,q2⟩
 ·by_cases hs:∃s,x= .str s
  ·obtain ⟨s,rfl⟩:=hs;let ⟨b,h1,h2⟩:=aq (show az (strOf y) (λb=>ajN op E op t s b)=some z from h)
   obtain rfl:=mV h1;cases hu;cases hv;let ⟨r,q1,q2⟩:=ajM (g:=g) h2 w;exact ⟨r,by rw[Sem.run_bind,DE (P:=E.P) (a:=.string s) (.inr (by simp)) (.inl (by simp))];exact q1,q2⟩
  ·have qY:∀k e,x≠ .int k e:=λk e q=>hx ⟨k,e,q⟩
   have hs':∀s,x≠ .str s:=λs q=>hs ⟨s,q⟩
   refine aaQ hE qY hs' ?_ hu hv w;cases x<;>first|exact absurd rfl (qY _ _)|exact absurd rfl (hs' _)|exact h
def aDk {i:TI} (h:BX P t i):∃d,P.underlying t=some d:=by
 have hd:=h.desc;generalize i.desc=d at hd;cases d<;>simp only[J8] at hd<;>first|exact ⟨_,hd⟩|exact ⟨_,hd.choose_spec⟩|exact ⟨_,hd.choose_spec.1⟩|exact ⟨_,hd.choose_spec.choose_spec.choose_spec⟩
def alQ (hE:dW E g) {x z:SV} (h:LZ E src dst x=some z) (hu:VR g u x) (w:World):∃r,(convert src dst u).run E.P w= .ok r w/\VR g r z:=by
 let ⟨i,j,hi,hj,h⟩:=bp h;let ⟨d1,xl⟩:=aDk (hE.ty _ _ hi);have hd:=(hE.ty _ _ hj).desc;generalize j.desc=D at hd h;cases D with
 |int k=>
  let ⟨p,h1,h2⟩:=aq (show az (intOf x) (λp=>some (SV.int k (XO k p.2)))=some z from h)
  cases h2;obtain rfl:=rH h1;cases hu with|int _ _ e1=>
  subst e1;exact ⟨_,by simp[convert,run_underlying xl,run_underlying hd,Conv.intToInt]<;>rfl,.int _ _ (avF _ _ _).symm⟩
 |string=>
  have h:ajO x=some z:=h;unfold ajO at h;split at h
  ·cases h;cases hu;exact ⟨_,by simp[convert,run_underlying xl,run_underlying hd]<;>rfl,.str _⟩
  ·unfold awO at h;split at h
   ·cases h;cases hu with|int _ _ e1=>
    subst e1;exact ⟨_,by simp[convert,run_underlying xl,run_underlying hd,Conv.intToString]<;>rfl,.str _⟩
  ·cases h
 |_=>cases h
def asV {op:UnOp} {x z:SV} (h:unA op x=some z) (hu:VR g u x) (w:World):∃r,(Op.unary op u).run P w= .ok r w/\VR g r z:=by
 cases hu with
 |bool b=>
  let ⟨h1,h2⟩:=aV (show aQ (PS op) (some (SV.bool (!b))) none=some z from h);cases h2;cases op<;>first|(simp[PS] at h1;done)|exact ⟨_,rfl,.bool _⟩
 |int k e he=>
  let ⟨h1,h2⟩:=aV (show aQ (isNeg op) (some (SV.int k (Nq k (.lit 0) e))) none=some z from h);cases h2;subst he;cases op<;>first|(simp[isNeg] at h1;done)|exact ⟨.int k (k.wrap (0-e.ev g.η)),by simp[Op.unary,Op.intArith],.int _ _ (by rw[agC];simp only[SI.ev])⟩
 |_=>cases h
end
section
variable {E:Env} {g:Gh} {f:Hf} {w:World}
variable {P:Program}
def jo (f:Hf) (u:Up):Hf:=λj=>if j=u.1 then u.2 else f j
def gz (f:Hf):dQ->Hf
 | []=>f
 |u::us=>gz (jo f u) us
def aDj (h:Hs) (u:Up):(h.up u).hp.get=jo h.hp.get u:=funext λj=>Tr.pD _ _ _ _
def KH:∀(us:dQ) (h:Hs),(h.lS us).hp.get=gz h.hp.get us
 | [],_=>rfl
 |u::us,h=>by
  show ((h.up u).lS us).hp.get=_;rw[KH us,aDj];rfl
def Il:∀(us:dQ) (h:Hs),(h.lS us).nx=h.nx
 | [],_=>rfl
 |u::us,h=>by
  show ((h.up u).lS us).nx=_;rw[Il us];rfl
def Gh.bind (g:Gh) (id:Nat) (p:Nat×Nat) (l:Nat) (e:TypeId):Gh:=⟨g.η,g.sz,λj=>if j=id then some p else g.Z j,λj=>if j=id then l else g.lim j,λj=>if j=id then e else g.et j,g.wb⟩
def Gh.EB {id:Nat} {p:Nat×Nat} (h:g.Z id=none):g.le (g.bind id p l e):=by
 have key:∀j q,g.Z j=some q->j≠id:=λj q hq e=>by subst e;rw[h] at hq;simp at hq
 refine ⟨rfl,rfl,λj q hq=> ?_,λj q hq=> ?_,λj q hq=> ?_,rfl⟩
 ·show (if j=id then some p else g.Z j)=some q
  rw[aL (key j q hq)];exact hq
 ·exact aL (key j q hq)
 ·exact aL (key j q hq)
def Gh.jf (g:Gh) (id:Nat) (p:Nat×Nat) (l:Nat) (e:TypeId):(g.bind id p l e).Z id=some p:=by simp[Gh.bind]
def Gh.ye (g:Gh) (id:Nat) (p:Nat×Nat) (l:Nat) (e:TypeId):(g.bind id p l e).lim id=l:=by simp[Gh.bind]
def Gh.AQ (g:Gh) (id:Nat) (p:Nat×Nat) (l:Nat) (e:TypeId):(g.bind id p l e).et id=e:=by simp[Gh.bind]
def Gh.lH (g:Gh) {id j:Nat} (p:Nat×Nat) (l:Nat) (e:TypeId) (h:j≠id):(g.bind id p l e).Z j=g.Z j:=by simp[Gh.bind,h]
def HR.Er (h:HR g f w) {id:Nat} (hn:g.Z id=none):f id=none:=by
 cases hf:f id with
 |none=>rfl
 |some o=>
  let ⟨b,c,h1,_⟩:=h.ob id o hf;rw[hn] at h1;simp at h1
def HR.sub (h:HR g f w) {f':Hf} (hs:∀id o,f' id=some o->f id=some o):HR g f' w:=
 ⟨λid o ho=>h.ob id o (hs id o ho),λi j x y b c d hx hy h1 h2=>h.inj i j x y b c d (hs i x hx) (hs j y hy) h1 h2⟩
def HR.write (h:HR g f w) {id:Nat} {o o':SO} (hf:f id=some o) (hρ:g.Z id=some (b,c)) (mH:w'.heap.size=w.heap.size) (GH:∀k,k≠b->w'.heap[k]? =w.heap[k]?) (uN:OR g w' id b c o') (h1:w'.os=w.os) (h2:w'.tape=w.tape) (h3:w'.output=w.output):
  HR g (jo f (id,some o')) w'/\Fr g f w g (jo f (id,some o')) w':=by
 have hb:b<w.heap.size:=by
  let ⟨b',c',q1,q2,_⟩:=h.ob id o hf;rw[hρ] at q1;obtain ⟨rfl,rfl⟩:b=b'/\c=c':=by simpa using q1
  exact q2
 refine ⟨⟨λj x hx=> ?_,λi j x y b1 c1 d1 hx hy e1 e2=> ?_⟩,⟨h1,h2,h3,by omega,.refl _,λk hk hn=>GH k (λe=>hn ⟨id,o,c,hf,by rw[e];exact hρ⟩),λk hk hm=> ?_⟩⟩
 ·simp only[jo] at hx;split at hx
  ·rename_i e;subst e;cases hx;exact ⟨b,c,hρ,by omega,uN⟩
  ·rename_i e;let ⟨b1,c1,q1,q2,q3⟩:=h.ob j x hx;refine ⟨b1,c1,q1,by omega,q3.mono (.refl _) q1 (GH b1 (λe'=> ?_))⟩
   subst e';exact e (h.inj j id x o b1 c1 c hx hf q1 hρ)
 ·have key:∀k z,jo f (id,some o') k=some z->∃z',f k=some z':=by
   intro k z hz;simp only[jo] at hz;split at hz
   ·rename_i e;subst e;exact ⟨o,hf⟩
   ·exact ⟨z,hz⟩
  let ⟨x',qY⟩:=key i x hx;let ⟨y',hy'⟩:=key j y hy;exact h.inj i j x' y' b1 c1 d1 qY hy' e1 e2
 ·let ⟨j,x,d,hx,hd⟩:=hm;simp only[jo] at hx;split at hx
  ·rename_i e;subst e;exact ⟨_,o,d,hf,hd⟩
  ·exact ⟨j,x,d,hx,hd⟩
def HR.alloc (h:HR g f w) (hn:g.Z new=none) {o':SO} (hw:w'=w.alloc ob) (uN:OR (g.bind new (w.heap.size,0) l e) w' new w.heap.size 0 o'):
  HR (g.bind new (w.heap.size,0) l e) (jo f (new,some o')) w'/\Fr g f w (g.bind new (w.heap.size,0) l e) (jo f (new,some o')) w':=by
 subst hw;have sX:=h.Er hn;have hle:=Gh.EB (p:=(w.heap.size,0)) (l:=l) (e:=e) hn;have mH:(w.alloc ob).heap.size=w.heap.size+1:=by simp
 refine ⟨⟨λj x hx=> ?_,λi j x y b1 c1 d1 hx hy e1 e2=> ?_⟩,⟨rfl,rfl,rfl,by omega,hle,λk hk _=>heap_alloc_old w ob hk,λk hk hm=> ?_⟩⟩
 ·simp only[jo] at hx;split at hx
  ·rename_i e;subst e;cases hx;exact ⟨w.heap.size,0,Gh.jf _ _ _ _ _,by omega,uN⟩
  ·rename_i e;let ⟨b1,c1,q1,q2,q3⟩:=h.ob j x hx;exact ⟨b1,c1,(Gh.lH g _ _ _ e).trans q1,by omega,q3.mono hle q1 (heap_alloc_old w ob q2)⟩
 ·simp only[jo] at hx hy;split at hx
  ·rename_i ei;subst ei;split at hy
   ·rename_i ej;exact ej.symm
   ·rename_i ej;rw[Gh.jf] at e1;rw[Gh.lH g _ _ _ ej] at e2;let ⟨b2,c2,q1,q2,_⟩:=h.ob j y hy;rw[e2] at q1;simp at e1 q1;omega
  ·rename_i ei;rw[Gh.lH g _ _ _ ei] at e1;split at hy
   ·rename_i ej;subst ej;rw[Gh.jf] at e2;let ⟨b2,c2,q1,q2,_⟩:=h.ob i x hx;rw[e1] at q1;simp at e2 q1;omega
   ·rename_i ej;rw[Gh.lH g _ _ _ ej] at e2;exact h.inj i j x y b1 c1 d1 hx hy e1 e2
 ·let ⟨j,x,d,hx,hd⟩:=hm;simp only[jo] at hx;split at hx
  ·rename_i e;subst e;rw[Gh.jf] at hd;simp at hd;omega
  ·rename_i e;rw[Gh.lH g _ _ _ e] at hd;exact ⟨j,x,d,hx,hd⟩
def HR.kill (h:HR g f w) (id:Nat):HR g (jo f (id,none)) w/\Fr g f w g (jo f (id,none)) w:=by
 have key:∀k z,jo f (id,none) k=some z->f k=some z:=by
  intro k z hz;simp only[jo] at hz;split at hz
  ·simp at hz
  ·exact hz
 refine ⟨h.sub key,⟨rfl,rfl,rfl,dg _,.refl _,λ_ _ _=>rfl,λk hk hm=> ?_⟩⟩
 let ⟨j,x,d,hx,hd⟩:=hm;exact ⟨j,x,d,key j x hx,hd⟩
def HR.rename (h:HR g f w) {id c':Nat} {o o':SO} (hn:g.Z new=none) (hf:f id=some o) (hρ:g.Z id=some (b,c)) (mH:w'.heap.size=w.heap.size) (GH:∀k,k≠b->w'.heap[k]? =w.heap[k]?) (uN:OR (g.bind new (b,c') l e) w' new b c' o') (h1:w'.os=w.os) (h2:w'.tape=w.tape) (h3:w'.output=w.output):
  HR (g.bind new (b,c') l e) (jo (jo f (id,none)) (new,some o')) w'/\Fr g f w (g.bind new (b,c') l e) (jo (jo f (id,none)) (new,some o')) w':=by
 have hle:=Gh.EB (p:=(b,c')) (l:=l) (e:=e) hn;have sX:=h.Er hn;have hb:b<w.heap.size:=by
  let ⟨b',c',q1,q2,_⟩:=h.ob id o hf;rw[hρ] at q1;obtain ⟨rfl,rfl⟩:b=b'/\c=c':=by simpa using q1
  exact q2
 have key:∀j x,jo (jo f (id,none)) (new,some o') j=some x->(j=new/\x=o')\/(j≠new/\j≠id/\f j=some x):=by
  intro j x hx;simp only[jo] at hx;split at hx
  ·rename_i e;cases hx;exact .inl ⟨e,rfl⟩
  ·rename_i e;split at hx
   ·simp at hx
   ·rename_i e';exact .inr ⟨e,e',hx⟩
 have uo:∀j x d,j≠id->f j=some x->g.Z j=some (b,d)->False:=λj x d hj hx hd=>hj (h.inj j id x o b d c hx hf hd hρ)
 refine ⟨⟨λj x hx=> ?_,λi j x y b1 c1 d1 hx hy e1 e2=> ?_⟩,⟨h1,h2,h3,by omega,hle,λk hk hn=>GH k (λe=>hn ⟨id,o,c,hf,by rw[e];exact hρ⟩),λk hk hm=> ?_⟩⟩
 ·rcases key j x hx with ⟨rfl,rfl⟩|⟨q1,q2,q3⟩
  ·exact ⟨b,c',Gh.jf _ _ _ _ _,by omega,uN⟩
  ·let ⟨b1,c1,r1,r2,r3⟩:=h.ob j x q3;exact ⟨b1,c1,(Gh.lH g _ _ _ q1).trans r1,by omega,r3.mono hle r1 (GH b1 (λe=>by subst e;exact uo j x c1 q2 q3 r1))⟩
 ·rcases key i x hx with ⟨rfl,rfl⟩|⟨q1,q2,q3⟩<;>rcases key j y hy with ⟨rfl,rfl⟩|⟨r1,r2,r3⟩
  ·rfl
  ·rw[Gh.jf] at e1;rw[Gh.lH g _ _ _ r1] at e2;obtain ⟨rfl,_⟩:b=b1/\c'=c1:=by simpa using e1
   exact (uo j y d1 r2 r3 e2).elim
  ·rw[Gh.jf] at e2;rw[Gh.lH g _ _ _ q1] at e1;obtain ⟨rfl,_⟩:b=b1/\c'=d1:=by simpa using e2
   exact (uo i x c1 q2 q3 e1).elim
  ·rw[Gh.lH g _ _ _ q1] at e1;rw[Gh.lH g _ _ _ r1] at e2;exact h.inj i j x y b1 c1 d1 q3 r3 e1 e2
 ·let ⟨j,x,d,hx,hd⟩:=hm;rcases key j x hx with ⟨rfl,rfl⟩|⟨q1,q2,q3⟩
  ·rw[Gh.jf] at hd;obtain ⟨rfl,_⟩:b=k/\c'=d:=by simpa using hd
   exact ⟨id,o,c,hf,hρ⟩
  ·rw[Gh.lH g _ _ _ q1] at hd;exact ⟨j,x,d,q3,hd⟩
def tF {cur:ig} (h:w.heap[b]? =some (.cells cur e fz)):w.cell? ⟨b,o,none⟩=cur[o]? :=by simp[World.cell?,h]
def add_lit (b o j:Nat):(⟨b,o,none⟩:Addr).add j=⟨b,o+j,none⟩:=by unfold Addr.add;split<;>simp_all
def Cells.fT {id:Nat} {cs:aY} (h:Cells g w id b o e cs) (off n:Nat) (hl:off+n<=cs.length):
  ∃vs:fu,vs.length=n/\gN g vs ((cs.drop off).take n)/\∀j v,vs[j]? =some v->w.cell? ⟨b,o+off+j,none⟩=some v:=by
 let ⟨⟨cur,h1,h0,vs,h2,h3⟩,h4⟩:=h;refine ⟨(vs.drop off).take n,?_,(h2.drop off).take n,λj v hv=> ?_⟩
 ·have:=h2.length;simp;omega
 ·rw[tF h1];rw[eN] at hv;split at hv
  ·rw[fa] at hv;rw[fU];exact h3 _ _ hv
  ·simp at hv
def G0:∀{cs:aY},uR cs=true->∀{j:Nat} {x:SV},cs[j]? =some x->HQ x=false
 | [],_,j,x,h=>by simp at h
 |y::cs,hd,j,x,h=>by
  have hd:aQ (HQ y) false (uR cs)=true:=hd;rw[bH] at hd;split at hd
  ·cases hd
  ·rename_i hu;cases j with
   |zero=>
    have e:y=x:=by simpa using h
    rw[<-e];simpa using hu
   |succ j=>exact G0 hd (by simpa using h)
def OR.fT {id:Nat} {x:SO} {p:TypeId×aY} (h:OR g w id b o x) (hx:je (some x) off n=some p) (hl:off+n<=p.2.length):
  ∃vs:fu,vs.length=n/\gN g vs ((p.2.drop off).take n)/\∀j v,vs[j]? =some v->w.cell? ⟨b,o+off+j,none⟩=some v:=by
 cases x with
 |cells e cs=>cases hx;exact Cells.fT h off n hl
 |ro cs=>
  let ⟨hd,hx⟩:=aV (show aQ (uR ((cs.drop off).take n)) (some (0,cs)) none=some p from hx);cases hx;let ⟨cur,e,fz,h1,_,h2⟩:=h;have mH:n=0\/o+off+n<=cur.size:=by
   by_cases hn:n=0
   ·exact .inl hn
   ·right;have hl:off+n<=cs.length:=hl;have cY:off+n-1<cs.length:=by omega
    let ⟨v,a,_⟩:=h2 (off+n-1) cs[off+n-1] (by simp[cY])
    have:=(nh.1 a).1;omega
  have hlen:((cur.toList.drop (o+off)).take n).length=n:=by
   rcases mH with h|h
   ·subst h;simp
   ·simp;omega
  have mQ:∀j v,((cur.toList.drop (o+off)).take n)[j]? =some v->j<n/\cur[o+off+j]? =some v:=λj v hv=>by
   rw[eN] at hv;split at hv
   ·rw[fa] at hv;exact ⟨by assumption,by simpa using hv⟩
   ·cases hv
  refine ⟨(cur.toList.drop (o+off)).take n,hlen,gN.mk (by rw[hlen,dR,iX];have hl:off+n<=cs.length:=hl;show n=min n (cs.length-off);omega) (λj v y hv hy=> ?_),λj v hv=> ?_⟩
  ·have hu:=G0 hd hy;let ⟨hj,hv⟩:=mQ j v hv;have hy:((cs.drop off).take n)[j]? =some y:=hy;rw[eN,aH hj,fa] at hy;let ⟨v',a,b⟩:=h2 (off+j) y hy;have e:v'=v:=by
    rw[show o+(off+j)=o+off+j by omega,hv] at a
    simpa using a.symm
   rw[<-e];exact b hu
  ·let ⟨_,hv⟩:=mQ j v hv;rw[tF h1];exact hv
 |_=>cases hx
def z6 {cs xs:List J} (h:off+xs.length<=cs.length) (j:Nat):
  (cs.take off++xs++cs.drop (off+xs.length))[j]? =if off<=j/\j<off+xs.length then xs[j-off]? else cs[j]? :=by
 by_cases h1:j<off
 ·rw[aL (by omega),lu,nR (by simp;omega),eN]
  simp[h1]
 ·by_cases h2:j<off+xs.length
  ·rw[aH ⟨by omega,h2⟩,nR (by simp;omega),nf (by simp;omega)]
   congr 1;simp[fB (by omega:off<=cs.length)]
  ·rw[nf (by simp;omega),fa,aL (by omega)]
   congr 1;simp[fB (by omega:off<=cs.length)]
   omega
def Ix (cs:aY) (off:Nat) (xs:aY):eK cs off xs=cs.take off++xs++cs.drop (off+xs.length):=rfl
def Cells.store {id:Nat} {cs:aY} (h:Cells g w id b o e cs) {us:fu} {xs:aY} (hx:gN g us xs) (hl:off+xs.length<=cs.length):
  ∃w',(storeCells ⟨b,o+off,none⟩ us 0).run P w= .ok () w'/\Cells g w' id b o e (eK cs off xs)/\w'.heap.size=w.heap.size/\(∀k,k≠b->w'.heap[k]? =w.heap[k]?)/\w'.os=w.os/\w'.tape=w.tape/\w'.output=w.output:=by
 have hul:=hx.length;by_cases hu0:us= []
 ·subst hu0;have hx0:xs= []:=sn (by simpa using hul.symm)
  subst hx0;refine ⟨w,rfl,?_,rfl,λ_ _=>rfl,rfl,rfl,rfl⟩
  have:eK cs off []=cs:=by rw[Ix];simp
  rw[this];exact h
 let ⟨⟨cur,h1,h0,vs,h2,h3⟩,h4⟩:=h;have hvl:=h2.length;have Vq:0<us.length:=by cases us with|nil=>exact absurd rfl hu0|cons _ _=>simp
 have mH:o+off+us.length<=cur.size:=by
  have cY:off+us.length-1<vs.length:=by omega
  have:=h3 (off+us.length-1) vs[off+us.length-1] (by simp[cY])
  have:=(nh.1 this).1;omega
 have ln:=run_storeCells_at P b (o+off) e us 0 cur w h1 (by omega) hx.one
 simp only[ng] at ln;refine ⟨_,ln,⟨⟨_,setRow_heap w b cur _ e _ h1,?_,vs.take off++us++vs.drop (off+us.length),?_,?_⟩,h4⟩,by simp,λk hk=>setRow_other w b k _ hk,rfl,rfl,rfl⟩
 ·simp;omega
 ·rw[Ix,<-hul];exact ((h2.take off).append hx).append (h2.drop _)
 ·intro j v hv;rw[z6 (by omega)] at hv
  have hg:(cur.toList.take (o+off)++us++cur.toList.drop (o+off+us.length)).toArray[o+j]? =if o+off<=o+j/\o+j<o+off+us.length then us[o+j-(o+off)]? else cur[o+j]? :=by
   rw[H9,z6 (by simp;omega)]
   simp
  rw[hg];split at hv
  ·rename_i hc;rw[aH (by omega)]
   have:o+j-(o+off)=j-off:=by omega
   rw[this];exact hv
  ·rename_i hc;rw[aL (by omega)]
   exact h3 j v hv
end
section
variable {E:Env} {g:Gh} {f:Hf} {w:World}
variable {P:Program} {kc:IntKind}
structure gZ (g:Gh) (f:Hf) (w:World) (v:SV) (us:dQ) (new:Nat) (r:Value) (g':Gh) (w':World):Prop where
 val:VR g' r v
 hr:HR g' (gz f us) w'
 fr:Fr g f w g' (gz f us) w'
 ro:∀id,id≠new->g'.Z id=g.Z id
 nil:us= []->g'=g
def gZ.same (h:HR g f w) {v:SV} (hv:VR g r v):gZ g f w v [] new r g w:=⟨hv,h,Fr.refl _ _ _,λ_ _=>rfl,λ_=>rfl⟩
def HR.at (h:HR g f w) {id:Nat} {o:SO} (hf:f id=some o) (hρ:g.Z id=some (b,c)):b<w.heap.size/\OR g w id b c o:=by
 let ⟨b',c',q1,q2,q3⟩:=h.ob id o hf;rw[hρ] at q1;obtain ⟨rfl,rfl⟩:b=b'/\c=c':=by simpa using q1
 exact ⟨q2,q3⟩
def agi {i:TI} (hT:BX P t i) (ha:l5 i.desc=true) {vs:fu} (hl:vs.length=i.size) (ad:Addr) (h:∀j v,vs[j]? =some v->w.cell? (ad.add j)=some v):(loadVar t ad).run P w= .ok (.agg vs.toArray) w:=by
 have:=run_loadCells_list (P:=P) w ad vs h;rw[hl] at this;simp only[loadVar,Sem.run_bind,Ad hT,ha,Result.andThen_ok,aB,oF hT,this,Sem.run_pure]
def agh {i:TI} (hT:BX P t i) (ha:l5 i.desc=false) (ad:Addr) (h:w.cell? ad=some v):(loadVar t ad).run P w= .ok v w:=by
 simp only[loadVar,Sem.run_bind,Ad hT,ha,Result.andThen_ok,aC,aA,run_load,h]
def PK (hE:dW E g) (h:HR g f w) {x z:SV} (hu:VR g u x) (uq:oX E f t x=some z):∃r,(Instr.loadAt t u).run E.P w= .ok r w/\VR g r z:=by
 let ⟨q,h1,hl⟩:=aq uq;let ⟨i,hi,hl⟩:=aq hl;let ⟨p,hp,hl⟩:=aq hl;obtain rfl:=oe h1;have hT:=hE.ty t i hi;have hx:∃x,f q.1=some x/\je (some x) q.2 (wide i)=some p:=by
  cases hf:f q.1 with
  |none=>rw[hf] at hp;cases hp
  |some x=>exact ⟨x,rfl,by rw[<-hf];exact hp⟩
 let ⟨x,hf,hx⟩:=hx;cases hu with
 | @ptr _ _ b o hρ=>
  have hc:OR g w q.1 b o x:=(h.at hf hρ).2;unfold ij at hl;rw[bH] at hl;split at hl
  ·rename_i ha;let ⟨hle,hl⟩:=aV hl;have hle:=(bV _ _).1 hle;cases hl;have hw:wide i=i.size:=by unfold wide;rw[ha]
   rw[hw] at hx;let ⟨vs,v1,v2,v3⟩:=hc.fT hx hle;refine ⟨.agg vs.toArray,?_,.agg (by simpa using v2)⟩
   simp only[Instr.loadAt,Instr.sureAddr,Sem.run_bind,Sem.run_pure,Result.andThen_ok];exact agi hT ha v1 _ (λj v hj=>by rw[add_lit];exact v3 j v hj)
  ·rename_i ha;have cY:q.2<p.2.length:=(bY.1 hl).1;have hw:wide i=1:=by unfold wide;rw[show l5 i.desc=false by simpa using ha]
   rw[hw] at hx;let ⟨vs,v1,v2,v3⟩:=hc.fT hx (by omega)
   have hz:((p.2.drop q.2).take 1)[0]? =some z:=by rw[eN,aH (by omega),fa,ng];exact hl
   let ⟨v,hv,_,hd⟩:=v2.get hz;refine ⟨v,?_,hd⟩;simp only[Instr.loadAt,Instr.sureAddr,Sem.run_bind,Sem.run_pure,Result.andThen_ok];exact agh hT (by simpa using ha) _ (by have:=v3 0 v hv;rwa[ng] at this)
def afM (hE:dW E g) (h:HR g f w) {x y:SV} (hu:VR g u x) (hv:VR g v y) {us:dQ} (uq:rW E f t y x=some us):
  ∃w',(Instr.storeAt t u v).run E.P w= .ok () w'/\HR g (gz f us) w'/\Fr g f w g (gz f us) w':=by
 let ⟨q,h1,hl⟩:=aq uq;let ⟨i,xs,p,hi,hxs,hp,hl⟩:=pY hl;obtain rfl:=oe h1;let ⟨hc,hl⟩:=aV hl;cases hl;rw[bF] at hc;have hlen:=(beq_iff _ _).1 hc.1;have hle:=(bV _ _).1 hc.2;have hf:=kU hp;have hT:=hE.ty t i hi;have hcr:=hv.je hxs;cases hu with
 | @ptr _ _ b o hρ=>
  have BE:Cells g w q.1 b o p.1 p.2:=(h.at hf hρ).2;let ⟨w',q1,q2,q3,q4,q5,q6,q7⟩:=BE.store (P:=E.P) hcr hle;let ⟨r1,r2⟩:=h.write (o':=.cells p.1 (eK p.2 q.2 xs)) hf hρ q3 q4 q2 q5 q6 q7;refine ⟨w',?_,r1,r2⟩;have mH:v.cells.size=i.size:=by rw[<-hlen,<-hcr.length];simp
  simp only[Instr.storeAt,Instr.sureAddr,storeVar,Sem.run_bind,Sem.run_pure,Result.andThen_ok,oF hT,mH,ne_eq,not_true,aA,Sem.run_ite];exact q1
def gN.eK {vs us:fu} {cs xs:aY} (h:gN g vs cs) (k:gN g us xs):gN g (vs.take off++us++vs.drop (off+us.length)) (bX.eK cs off xs):=by
 rw[Ix,k.length];exact ((h.take off).append k).append (h.drop _)
def Ao (place:Nat->Option (Nat×Nat)):∀(parts:List (Nat×Value)) (ia:List (Nat×aY)) (vs:ig) (cs rs:aY),gN g vs.toList cs->
  parts.length=ia.length->(∀(j:Nat) (i:Nat) (v:Value) (i':Nat) (xs:aY),parts[j]? =some (i,v)->ia[j]? =some (i',xs)->i=i'/\gN g v.cells.toList xs)->mZ place cs ia=some rs->
  ∃us,Instr.fill place vs parts=some us/\gN g us.toList rs
 | [],[],vs,cs,rs,hc,_,_,h=>by cases h;exact ⟨vs,rfl,hc⟩
 |(i,v)::parts,(i',xs)::ia,vs,cs,rs,hc,hl,hp,h=>by
  obtain ⟨rfl,hx⟩:=hp 0 i v i' xs rfl rfl;let ⟨q,Je,h⟩:=aq (show az (place i) (λq=>aQ (Nat.beq xs.length q.2&&Nat.ble (Nat.add q.1 q.2) cs.length) (mZ place (bX.eK cs q.1 xs) ia) none)=some rs from h)
  let ⟨aln,h⟩:=aV h;rw[bF] at aln;have h1:=(beq_iff _ _).1 aln.1;have h2:q.1+q.2<=cs.length:=(bV _ _).1 aln.2;let ⟨off,size⟩:=q;simp only at h1 h2 Je h;have hvl:v.cells.size=size:=by rw[<-h1,<-hx.length];simp
  have eI:vs.size=cs.length:=by rw[<-hc.length];simp
  have aKb:(v.cells.zipIdx.foldl (λcs (c,j)=>cs.setIfInBounds (off+j) c) vs).toList=vs.toList.take off++v.cells.toList++vs.toList.drop (off+v.cells.toList.length):=by
   rw[<-Array.foldl_toList,Array.toList_zipIdx];let ⟨f1,f2⟩:=Great.foldl_set off v.cells.toList 0 vs;apply xv;intro j;rw[z6 (by simp;omega)]
   have:=f2 j;simp only[ng] at this;rw[lx];refine this.trans ?_;simp only[KD,lx];by_cases hj:off<=j/\j<off+v.cells.size
   ·rw[aH hj,aH ⟨hj.1,hj.2,by omega⟩]
   ·rw[aL hj,aL (by omega)]
  have sZ:=hc.eK hx (off:=off);rw[<-aKb] at sZ;let ⟨us,hu1,hu2⟩:=Ao place parts ia _ _ rs sZ (by simpa using hl) (λj i v i' xs ha hb=>hp (j+1) i v i' xs (by simpa using ha) (by simpa using hb)) h
  refine ⟨us,?_,hu2⟩;unfold Instr.fill;simp only[Je];rw[aL (by simp[hvl];omega)]
  exact hu1
 | [],_::_,_,_,_,_,hl,_,_=>by simp at hl
 |_::_,[],_,_,_,_,hl,_,_=>by simp at hl
def Dt {nt:Nat} {tm:Tf} {a:Act} (h:FR g nt tm a.tmps):∀(parts:List (Nat×Operand)) (l:List (Nat×aY)),ku tm parts=some l->
  parts.length=l.length/\∀(j:Nat) (i:Nat) (v:Value) (i':Nat) (xs:aY),(parts.map λ(i,x)=>(i,a.eval x))[j]? =some (i,v)->l[j]? =some (i',xs)->i=i'/\gN g v.cells.toList xs
 | [],l,hp=>by cases hp;simp
 |(i,x)::parts,l,hp=>by
  let ⟨v,hv,hp⟩:=aq hp;let ⟨cs,l',hc,xi,hp⟩:=bp hp;cases hp;let ⟨h1,h2⟩:=Dt h parts l' xi;refine ⟨by simp[h1],λj i1 u i2 xs ha hb=> ?_⟩
  cases j with
  |zero=>
   simp at ha hb;obtain ⟨rfl,rfl⟩:=ha;obtain ⟨rfl,rfl⟩:=hb;exact ⟨rfl,(ot h hv).je hc⟩
  |succ j=>simp at ha hb;exact h2 j i1 u i2 xs (by simpa using ha) hb
def ajz {i:TI} (h:BX P t i):∃z,(∀w,(zeroValue t).run P w= .ok z w)/\(∀g,gN g z.cells.toList i.zero):=by
 let ⟨z,h1,h2,_⟩:=aap h;exact ⟨z,h1,h2.1⟩
def Qc {p p':Nat->Option (Nat×Nat)} (hp:∀j q,p j=some q->p' j=some q):∀(ia:List (Nat×aY)) (cs rs:aY),mZ p cs ia=some rs->mZ p' cs ia=some rs
 | [],cs,rs,h=>h
 |(i,xs)::ia,cs,rs,h=>by
  let ⟨q,h1,h⟩:=aq (show az (p i) (λq=>aQ (Nat.beq xs.length q.2&&Nat.ble (Nat.add q.1 q.2) cs.length) (mZ p (bX.eK cs q.1 xs) ia) none)=some rs from h)
  let ⟨hc,h⟩:=aV h;show az (p' i) (λq=>aQ (Nat.beq xs.length q.2&&Nat.ble (Nat.add q.1 q.2) cs.length) (mZ p' (bX.eK cs q.1 xs) ia) none)=some rs
  rw[hp _ _ h1];show aQ (Nat.beq xs.length q.2&&Nat.ble (Nat.add q.1 q.2) cs.length) (mZ p' (bX.eK cs q.1 xs) ia) none=some rs;rw[hc];exact Qc hp ia _ _ h
def MZ (P:Program):∀(l:List Field),(∀f∈l,(P.info? f.type).isSome=true)->∃Bg,l.mapM (λf=>(P.info? f.type).map λi=>(f.offset,i.size))=some Bg/\
  ∀(j:Nat) (f:Field) (i:TypeInfo),l[j]? =some f->P.info? f.type=some i->Bg[j]? =some (f.offset,i.size)
 | [],_=>⟨[],rfl,by simp⟩
 |f::l,h=>by
  let ⟨Bg,h1,h2⟩:=MZ P l (λx hx=>h x (by simp[hx]))
  let ⟨i,hi⟩:=Ox.1 (h f (by simp))
  refine ⟨(f.offset,i.size)::Bg,by simp[SZ,hi,h1],λj x ix hx yW=> ?_⟩
  cases j with
  |zero=>simp at hx;subst hx;rw[hi] at yW;cases yW;rfl
  |succ j=>simp at hx;simpa using h2 j x ix hx yW
def WL {r:Option aY} {z:SV} (h:JU r=some z):∃cs,r=some cs/\z= .agg cs:=by
 let ⟨cs,h1,h2⟩:=aq h;cases h2;exact ⟨cs,h1,rfl⟩
def agr (hE:dW E g) {ia:List (Nat×aY)} {x:SV} (o7:E1 E t ia=some x) (hl:parts.size=ia.length) (hp:∀(j:Nat) (i:Nat) (v:Value) (i':Nat) (xs:aY),parts.toList[j]? =some (i,v)->ia[j]? =some (i',xs)->i=i'/\gN g v.cells.toList xs) (w:World):
  ∃v,(Instr.build t parts).run E.P w= .ok v w/\VR g v x:=by
 let ⟨i,hi,hb⟩:=aq o7;have hT:=hE.ty t i hi;let ⟨it,zv,q1,_,_,_,q5,q6,_⟩:=hT.info;have hz:=q6.1 g;have hd:=hT.desc;generalize i.desc=D at hd hb;cases D with
 |array n e=>
  let ⟨ie,hie,hb⟩:=aq (show az (E.ty.get e) (λie=>JU (mZ (rX ie.size) i.zero ia))=some x from hb)
  obtain ⟨rs,hf,rfl⟩:=WL hb;let ⟨us,hu1,hu2⟩:=Ao (rX ie.size) parts.toList ia zv.cells i.zero rs hz (by simpa using hl) hp hf
  let ⟨fe,_,e1,e2,_⟩:=(hE.ty e ie hie).info;refine ⟨.agg us,run_build w t parts us ?_,.agg hu2⟩;unfold Program.built;simp only[q1,(show E.P.underlying t=some (.array n e) from hd),q5,e1,e2];exact hu1
 |struct fs=>
  let ⟨a,hu,Jm,iw⟩:=hd;obtain ⟨rs,hf,rfl⟩:=WL (show JU (mZ (Ps E fs) i.zero ia)=some x from hb);let ⟨Bg,p1,p2⟩:=MZ E.P a.toList iw;have hf':=Qc (p':=(Bg.toArray[·]?)) (λj q hq=>by
   let ⟨fl,h1,h2⟩:=aq hq;let ⟨fi,h3,h4⟩:=aq h2;cases h4;rw[<-Jm,lz] at h1;cases hj:a.toList[j]? with
   |none=>rw[hj] at h1;simp at h1
   |some fd=>
    rw[hj] at h1;simp at h1;subst h1;let ⟨ff,_,e1,e2,_⟩:=(hE.ty _ fi h3).info;have:=p2 j fd ff hj e1;rw[e2] at this;simpa using this) ia _ _ hf
  let ⟨us,hu1,hu2⟩:=Ao (Bg.toArray[·]?) parts.toList ia zv.cells i.zero rs hz (by simpa using hl) hp hf'
  refine ⟨.agg us,run_build w t parts us ?_,.agg hu2⟩;unfold Program.built;simp only[q1,hu,q5,p1];exact hu1
 |_=>cases hb
def Wq {J:Type} [Inhabited J] (zs:List J) (s:Nat) (hs:zs.length=s):∀n,(List.range (n*s)).map (λk=>zs.toArray[k % s]!)=(List.replicate n zs).flatten
 |0=>by simp
 |n+1=>by
  have e:(n+1)*s=s+n*s:=by rw[gD];omega
  rw[e,List.range_add,mB,DR,SU,qF,<-Wq zs s hs n];congr 1
  ·apply xv;intro j;rw[lz];by_cases hj:j<s
   ·rw[List.getElem?_range hj];simp[Nat.mod_eq_of_lt hj,hs,hj]
   ·rw[tQ (by simp;omega),tQ (by omega)];rfl
  ·refine DV λk _=> ?_
   simp
def ahE {vs:fu} {cs:aY} (h:gN g vs cs):∀n,gN g (List.replicate n vs).flatten (rep cs n)
 |0=>by simpa using .nil
 |n+1=>by rw[SU,qF];exact h.append (ahE h n)
def Ck {i:TI} (hT:BX P t i) (h1:P.info? t=some it) (h2:it.zero=some z) (js:pT i=true) (n:Nat):
  gN g ((Array.range (n*it.size)).map (z.cells[· % z.cells.size]!)).toList (rep i.zero n)/\it.size=i.size/\1<=i.size/\it.bytes<=65536/\z.cells.size=i.size:=by
 let ⟨it',z',q1,q2,q3,_,q5,q6,_⟩:=hT.info;rw[h1] at q1;cases q1;rw[h2] at q5;cases q5;unfold pT at js;rw[bF,bF] at js;have k1:=(bV _ _).1 js.1;have k2:=(bV _ _).1 js.2.1;have k3:=(beq_iff _ _).1 js.2.2;have hzl:z.cells.size=i.size:=by rw[<-k3,<-(q6.1 g).length];simp
 refine ⟨?_,q2,k2,by omega,hzl⟩
 have:=ahE (q6.1 g) n;rw[<-Wq z.cells.toList i.size (by simpa using hzl) n] at this
 rw[Array.toList_map,Array.toList_range,q2,hzl];simpa using this
def HR.row (h:HR g f w) (hn:g.Z new=none) {arr:ig} {vs:fu} {cs:aY} (hw0:w0.heap=w.heap/\w0.os=w.os/\w0.tape=w.tape/\w0.output=w.output) (hw:w'=w0.alloc (.cells arr e)) (hc:gN g vs cs) (wB:∀(j:Nat) (v:Value),vs[j]? =some v->arr[j]? =some v) {v:SV} (hl:l<=arr.size) (hv:VR (g.bind new (w.heap.size,0) l e) r v):gZ g f w v [(new,some (.cells e cs))] new r (g.bind new (w.heap.size,0) l e) w':=by
 have h0:HR g f w0:=⟨λid o ho=>by
   let ⟨b,c,q1,q2,q3⟩:=h.ob id o ho;exact ⟨b,c,q1,by rw[hw0.1];exact q2,q3.mono (.refl _) q1 (by rw[hw0.1])⟩,h.inj⟩
 have hs:w0.heap.size=w.heap.size:=by rw[hw0.1]
 have BE:OR (g.bind new (w0.heap.size,0) l e) w' new w0.heap.size 0 (.cells e cs):=
  ⟨⟨arr,by rw[hw];exact heap_alloc_new w0 _,by rw[Gh.ye];omega,vs,hc.mono (Gh.EB hn),λj v hv=>by rw[cA];exact wB j v hv⟩,Gh.AQ _ _ _ _ _⟩
 let ⟨r1,r2⟩:=h0.alloc hn (o':=.cells e cs) hw BE;rw[hs] at r1 r2;exact ⟨hv,r1,⟨r2.os.trans hw0.2.1,r2.tape.trans hw0.2.2.1,r2.output.trans hw0.2.2.2,by have:=r2.size;omega,r2.le,λb hb hm=>(r2.old b (by omega) hm).trans (by rw[hw0.1]),λb hb hm=>r2.own b (by omega) hm⟩,λid cZ=>Gh.lH _ _ _ _ cZ,λxY=>by cases xY⟩
def MX (hE:dW E g) (h:HR g f w) (hn:g.Z new=none) {tm:Tf} (ed:FR g nt tm a.tmps) {len:Nat} {parts:Array (Nat×Operand)} {ia:List (Nat×aY)} (hpc:ku tm parts.toList=some ia) {v:SV} {us:dQ} (fV:ti E new t len ia=some (v,us)):
  ∃r w' g',(Instr.buildSlice t len (parts.map λ(i,x)=>(i,a.eval x))).run E.P w= .ok r w'/\gZ g f w v us new r g' w':=by
 let ⟨i,hi,ho⟩:=aq fV;let ⟨e,he,ho⟩:=aq ho;let ⟨ie,hie,ho⟩:=aq ho;let ⟨hc,ho⟩:=aV ho;let ⟨cs,hf,ho⟩:=aq ho;cases ho;rw[bF] at hc;have hsm:=(bV _ _).1 hc.2;have hd:=(hE.ty t i hi).desc;rw[uG he] at hd;have hT:=hE.ty e ie hie;let ⟨it,z,q1,q2,_,_,q5,_⟩:=hT.info;let ⟨z1,z2,z3,z4,z5⟩:=Ck (g:=g) hT q1 q5 hc.1 len;let ⟨hl,hpt⟩:=Dt ed parts.toList ia hpc;let ⟨arr,f1,f2⟩:=Ao (rX ie.size) (parts.map λ(i,x)=>(i,a.eval x)).toList ia _ _ cs z1 (by simpa using hl) (λj i v i' xs h1 h2=>hpt j i v i' xs (by simpa using h1) h2) hf
 have hv:VR (g.bind new (w.heap.size,0) 0 e) (.slice (some ⟨w.heap.size,0,none⟩) len len) (.sl new 0 len (.k len)):=.sl (id:=new) (off:=0) (o:=0) (b:=w.heap.size) (cap:=.k len) (Gh.jf _ _ _ _ _) (dg _) (λm hm=>by cases hm;rfl) (λe hm=>by cases hm)
 refine ⟨_,_,_,?_,h.row hn (w0:=w) (w':=w.alloc (.cells arr e)) ⟨rfl,rfl,rfl,rfl⟩ rfl f2 (λj v hv=>by simpa using hv) (qK _) hv⟩
 by_cases h0:len=0
 ·subst h0;have Jp:ia= []:=by
   cases ia with
   |nil=>rfl
   |cons p ps=>
    let ⟨q,r1,r2⟩:=aq (show az (rX ie.size p.1) (λq=>aQ (Nat.beq p.2.length q.2&&Nat.ble (Nat.add q.1 q.2) (rep ie.zero 0).length) (mZ (rX ie.size) (bX.eK (rep ie.zero 0) q.1 p.2) ps) none)=some cs from hf)
    cases r1;let ⟨r3,_⟩:=aV r2;rw[bF] at r3;have:=(bV _ _).1 r3.2;simp[rep] at this;omega
  subst Jp;have hp0:parts= #[]:=by apply uD;exact sn (by simpa using hl)
  subst hp0;simp at f1;simp[Instr.fill] at f1;simp[Instr.buildSlice,run_underlying (show E.P.underlying t=some (.slice e) from hd),sizeOf,typeInfo,q1,Instr.fill,newRow];rw[<-f1];congr 2;apply uD;simp
 ·have Vq:¬len*it.size=0:=by
   rw[z2];intro he;rcases Nat.mul_eq_zero.1 he with he|he<;>omega
  have hsm':¬len*it.size>2 ^ 24:=by rw[z2];have:len*ie.size<=16777216:=hsm;omega
  refine run_buildSlice w t e len _ _ it z hd q1 q5 hsm' Vq ?_;rw[z2] at f1 ⊢;exact f1
def agc (hE:dW E g) (h:HR g f w) (hn:g.Z new=none) {v:SV} {us:dQ} (fV:Bj E new t l c=some (v,us)):
  ∃r w' g',(Instr.makeSlice t (.int kl (.ofNat l)) (.int kc (.ofNat c))).run E.P w= .ok r w'/\gZ g f w v us new r g' w':=by
 let ⟨i,hi,ho⟩:=aq fV;let ⟨e,he,ho⟩:=aq ho;let ⟨ie,hie,ho⟩:=aq ho;let ⟨hc,ho⟩:=aV ho;cases ho;rw[bF,bF] at hc;have h1:=(bV _ _).1 hc.1;have h2:=(bV _ _).1 hc.2.1;have hd:=(hE.ty t i hi).desc;rw[uG he] at hd;have hT:=hE.ty e ie hie;let ⟨it,z,q1,q2,_,_,q5,_⟩:=hT.info;let ⟨z1,z2,z3,z4,z5⟩:=Ck (g:=g) hT q1 q5 hc.2.2 c;have hb:it.bytes*c<=65536*1000000:=Nat.mul_le_mul z4 h2;have ln:=run_make w t e it z hd q1 q5 kl kc (.ofNat l) (.ofNat c) (by simp) (by simp;omega) (by
  have:((it.bytes*c:Nat):Int)<=281474976710656:=by omega
  simpa using this) (by simp;omega)
 simp only[DU,Kx] at ln;have hv:VR (g.bind new (w.heap.size,0) 0 e) (.slice (some ⟨w.heap.size,0,none⟩) l c) (.sl new 0 l (.k c)):=.sl (id:=new) (off:=0) (o:=0) (b:=w.heap.size) (cap:=.k c) (Gh.jf _ _ _ _ _) h1 (λm hm=>by cases hm;rfl) (λe hm=>by cases hm)
 exact ⟨_,_,_,ln,h.row hn (w0:=w) ⟨rfl,rfl,rfl,rfl⟩ rfl z1 (λj v hv=>by rw[lx] at hv;exact hv) (qK _) hv⟩
end
section
variable {E:Env} {g:Gh} {f:Hf} {w:World}
variable {P:Program} {y:Nat} {hi:Option Operand}
def NB (hE:dW E g) (h:HR g f w) {s:TypeId} {x v:SV} (hu:VR g u x) {us:dQ} (fV:ou E s k x=some (v,us)):
  ∃r,(Instr.fieldAt s u k).run E.P w= .ok r w/\gZ g f w v us new r g w:=by
 let ⟨i,p,hi,hp,ho⟩:=bp fV;let ⟨fs,Jm,ho⟩:=aq ho;let ⟨fl,yX,ho⟩:=aq ho;let ⟨fi,hfi,ho⟩:=aq ho;let ⟨hc,ho⟩:=aV ho;cases ho;obtain rfl:=oe hp;have hd:=(hE.ty s i hi).desc;rw[Iv Jm] at hd;let ⟨a,sd,ha,iw⟩:=hd;subst ha;rw[lz] at yX;cases hj:a.toList[k]? with
 |none=>rw[hj] at yX;simp at yX
 |some fd=>
  rw[hj] at yX;simp at yX;subst yX;have Jj:a[k]? =some fd:=by simpa using hj
  have hs:=oF (hE.ty _ fi hfi) w;have h1:=(bV _ _).1 hc;have cZ:¬fi.size=0:=by omega
  cases hu with
  | @ptr _ _ b o hρ=>
   refine ⟨.pointer (some ⟨b,o+(p.2+fd.offset),none⟩),?_,gZ.same h (.ptr hρ)⟩;simp only[Instr.fieldAt,Sem.run_bind,run_underlying sd,Result.andThen_ok,Jj,Instr.sureAddr,Sem.run_pure,fieldPlace,hs,aL cZ,Sem.run_ite,add_lit,fU]
def aaX (hE:dW E g) (h:HR g f w) {x v:SV} (hu:VR g u x) {us:dQ} (fV:xP E t k x=some (v,us)):
  ∃r,(Instr.field t u k).run E.P w= .ok r w/\gZ g f w v us new r g w:=by
 let ⟨i,cs,hi,hp,ho⟩:=bp fV;let ⟨fs,Jm,ho⟩:=aq ho;let ⟨fl,yX,ho⟩:=aq ho;let ⟨fi,hfi,ho⟩:=aq ho;let ⟨z,hz,ho⟩:=aq ho;cases ho;obtain rfl:=Ar hp;have hd:=(hE.ty t i hi).desc;rw[Iv Jm] at hd;let ⟨a,sd,ha,iw⟩:=hd;subst ha;rw[lz] at yX;cases hj:a.toList[k]? with
 |none=>rw[hj] at yX;simp at yX
 |some fd=>
  rw[hj] at yX;simp at yX;subst yX;have Jj:a[k]? =some fd:=by simpa using hj
  cases hu with
  |agg hc=>
   let ⟨r,r1,r2⟩:=Ae (hE.ty _ fi hfi) hz hc w;refine ⟨r,?_,gZ.same h r2⟩;simp only[Instr.field,Sem.run_bind,run_underlying sd,Result.andThen_ok,Jj,asAgg,Sem.run_pure,r1]
def aaW (hE:dW E g) (h:HR g f w) {x v:SV} (hu:VR g u x) {us:dQ} (fV:vR E t k x=some (v,us)):
  ∃r,(Instr.index t u (.int kk (.ofNat k))).run E.P w= .ok r w/\gZ g f w v us new r g w:=by
 let ⟨i,hi,ho⟩:=aq fV;have hd:=(hE.ty t i hi).desc;generalize i.desc=D at hd ho;cases D with
 |string=>
  let ⟨s,hs,ho⟩:=aq (show az (strOf x) (λs=>az (s.data.toList[k]?) λb=>some (SV.int .u8 (.lit (.ofNat b.toNat)),([]:dQ)))=some (v,us) from ho)
  let ⟨b,hb,ho⟩:=aq ho;cases ho;obtain rfl:=mV hs;cases hu;refine ⟨.int .u8 b.toNat,?_,gZ.same h (.int _ _ (by simp[SI.ev]))⟩
  have cY:k<s.data.toList.length:=(bY.1 hb).1;have auG:k<s.size:=by simpa using cY
  have mQ:s[k]? =some b:=by
   rw[getElem?_pos s k auG];have:s.data.toList[k]=b:=(bY.1 hb).2;rw[<-this];rfl
  have h0:(0:Int)<=Int.ofNat k:=by simp
  simp only[Instr.index,asIntOf,Sem.run_bind,Sem.run_pure,Result.andThen_ok,run_underlying (show E.P.underlying t=some .string from hd),aH h0];simp only[DU,Kx,mQ,Sem.run_pure]
 |array n e=>
  let ⟨cs,ie,Jp,hie,ho⟩:=bp (show bT (G9 x) (E.ty.get e) (λcs ie=>aQ (Nat.ble (Nat.succ k) n) (same (ij ie cs (Nat.mul k ie.size))) none)=some (v,us) from ho)
  let ⟨hc,ho⟩:=aV ho;let ⟨z,hz,ho⟩:=aq ho;cases ho;obtain rfl:=Ar Jp;have cY:k+1<=n:=(bV _ _).1 hc;cases hu with
  |agg BE=>
   let ⟨r,r1,r2⟩:=Ae (hE.ty _ ie hie) hz BE w;refine ⟨r,?_,gZ.same h r2⟩;have iw:(0:Int)<=Int.ofNat k/\Int.ofNat k<(n:Int):=⟨by simp,by simp;omega⟩
   simp only[Instr.index,asIntOf,Sem.run_bind,Sem.run_pure,Result.andThen_ok,run_underlying (show E.P.underlying t=some (.array n e) from hd),aH iw,oF (hE.ty _ ie hie)];exact r1
 |_=>cases ho
def PY (hE:dW E g) {x z:SV} (hu:VR g u x) (fV:oj E t x k=some z):
  ∃r,(Instr.indexAt t u (.int kk (.ofNat k))).run E.P w= .ok r w/\VR g r z:=by
 let ⟨i,hi,ho⟩:=aq fV;have hd:=(hE.ty t i hi).desc;generalize i.desc=D at hd ho;cases D with
 |slice e=>
  let ⟨q,hq,ho⟩:=aq (show az (atn x) (λq=>AN E e q.1 q.2.1 q.2.2.1 k)=some z from ho)
  let ⟨hc,ho⟩:=aV ho;let ⟨ie,hie,ho⟩:=aq ho;cases ho;obtain rfl:=aoY hq;have cY:k+1<=q.2.2.1:=(bV _ _).1 hc;cases hu with
  | @sl _ _ _ b o c _ hρ hn jm vy=>
   refine ⟨.pointer (some ⟨b,o+(q.2.1+k*ie.size),none⟩),?_,.ptr hρ⟩;have iw:(0:Int)<=Int.ofNat k/\Int.ofNat k<(q.2.2.1:Int):=⟨by simp,by simp;omega⟩
   simp only[Instr.indexAt,asIntOf,Sem.run_bind,Sem.run_pure,Result.andThen_ok,run_underlying (show E.P.underlying t=some (.slice e) from hd),aH iw,oF (hE.ty _ ie hie),Sem.run_ite,add_lit];simp[fU]
 |array n e=>
  let ⟨q,hq,ho⟩:=aq (show az (vd x) (λq=>AN E e q.1 q.2 n k)=some z from ho)
  let ⟨hc,ho⟩:=aV ho;let ⟨ie,hie,ho⟩:=aq ho;cases ho;obtain rfl:=oe hq;have cY:k+1<=n:=(bV _ _).1 hc;cases hu with
  | @ptr _ _ b o hρ=>
   refine ⟨.pointer (some ⟨b,o+(q.2+k*ie.size),none⟩),?_,.ptr hρ⟩;have iw:(0:Int)<=Int.ofNat k/\Int.ofNat k<(n:Int):=⟨by simp,by simp;omega⟩
   simp only[Instr.indexAt,asIntOf,Sem.run_bind,Sem.run_pure,Result.andThen_ok,run_underlying (show E.P.underlying t=some (.array n e) from hd),Instr.sureAddr,aH iw,oF (hE.ty _ ie hie),Sem.run_ite,add_lit];simp[fU]
 |_=>cases ho
def run_sliceBound {k:IntKind} (h1:n<=y) (c:BoundsCode):(Instr.sliceBound (.int k (.ofNat n)) y c).run P w= .ok n w:=by
 have:(0:Int)<=Int.ofNat n/\Int.ofNat n<=(y:Int):=⟨by simp,by simp;omega⟩
 simp only[Instr.sliceBound,asIntOf,Sem.run_bind,Sem.run_pure,Result.andThen_ok,Sem.run_ite];rw[aH this];rfl
def yn {tm:Tf} (ed:FR g nt tm a.tmps) {x:Option Operand} {r:bP} (h:j1 tm x=some r):
  (x=none/\r=none)\/∃y k n,x=some y/\r=some n/\a.eval y= .int k (.ofNat n):=by
 cases x with
 |none=>cases h;exact .inl ⟨rfl,rfl⟩
 |some y=>
  let ⟨v,hv,h⟩:=aq h;let ⟨n,hn,h⟩:=aq h;cases h;obtain ⟨k,rfl⟩:=uc hn;have:=ot ed hv;generalize hu:a.eval y=u at this;cases this with
  |int _ _ e=>exact .inr ⟨y,k,n,rfl,rfl,by rw[hu,e];rfl⟩
def pJ {tm:Tf} (ed:FR g nt tm a.tmps) {mx:Option Operand} {l u m:bP} (hl:j1 tm lo=some l) (hu:j1 tm hi=some u) (hm:j1 tm mx=some m) (tq:Bool) (len cap:Nat) (h1:l.getD 0<=u.getD len) (h2:u.getD len<=m.getD cap) (h3:m.getD cap<=cap) (h4:m≠none->u≠none):
  (Instr.sliceBounds tq len cap (lo.map a.eval) (hi.map a.eval) (mx.map a.eval)).run P w= .ok (l.getD 0,u.getD len,m.getD cap) w:=by
 rcases yn ed hl with ⟨rfl,rfl⟩|⟨y1,k1,n1,rfl,rfl,e1⟩<;>rcases yn ed hu with ⟨rfl,rfl⟩|⟨y2,k2,n2,rfl,rfl,e2⟩<;>rcases yn ed hm with ⟨rfl,rfl⟩|⟨y3,k3,n3,rfl,rfl,e3⟩<;>
  simp only[xr,Kw] at h1 h2 h3<;>
  first
   |exact absurd rfl (h4 (Option.some_ne_none _))
   |(
    simp only[Instr.sliceBounds,Ib,SJ,Sem.run_bind,Sem.run_pure,Result.andThen_ok,xr,Kw,Option.isSome_some,Option.isSome_none]
    try simp only[e3,run_sliceBound (P:=P) (w:=w) (k:=k3) h3,Result.andThen_ok]
    try simp only[e2,run_sliceBound (P:=P) (w:=w) (k:=k2) h2,Result.andThen_ok]
    try simp only[e1,run_sliceBound (P:=P) (w:=w) (k:=k1) h1,Result.andThen_ok])
def yA {m:bP} (h:nv m=true):m.getD 0=0:=by
 cases m with
 |none=>rfl
 |some n=>exact (beq_iff _ _).1 h
def Xr (a:Addr):a.add 0=a:=by unfold Addr.add;split<;>simp_all
def aiy {id h:Nat} {size:Nat} {m:Cp} (hρ:g.Z id=some (b,o)) (h1:l<=h) (h2:h<=M) (hm:∀k,m= .k k->M=k) (hz:∀e,m= .u e->g.et id=e/\size=g.sz e/\off+M*size<=g.lim id):
  VR g (.slice (some (if M=l then ⟨b,o+off,none⟩ else (⟨b,o+off,none⟩:Addr).add (l*size))) (h-l) (M-l)) (zy id off l h size m):=by
 by_cases h0:l=0
 ·subst h0;have e1:zy id off 0 h size m= .sl id off h m:=rfl;have e2:(if M=0 then (⟨b,o+off,none⟩:Addr) else (⟨b,o+off,none⟩:Addr).add (0*size))=⟨b,o+off,none⟩:=by
   split
   ·rfl
   ·rw[lV,Xr]
  rw[e1,e2];exact .sl hρ (by omega) (λk hk=>by rw[hm k hk];omega) (λe hn=>by let ⟨q0,q1,q2⟩:=hz e hn;rw[<-q1];exact ⟨q0,q2⟩)
 ·have e0:Nat.beq l 0=false:=by rw[beq_eq];simpa using h0
  by_cases cY:l+1<=h
  ·have e1:zy id off l h size m= .sl id (off+l*size) (h-l) (F4 m l):=by
    unfold zy;rw[e0,show Nat.ble (Nat.succ l) h=true from (bV _ _).2 cY];rfl
   rw[e1,aL (by omega),add_lit,fU]
   refine .sl hρ (by omega) (λk hk=> ?_) (λe hk=> ?_)
   ·cases m with
    |u e'=>cases hk
    |k c=>cases hk;rw[hm c rfl];rfl
   ·cases m with
    |k c=>cases hk
    |u e'=>
     cases hk;let ⟨q0,q1,q2⟩:=hz _ rfl;rw[<-q1];refine ⟨q0,?_⟩;have:l*size+(M-l)*size=M*size:=by rw[<-gD];congr 1;omega
     show off+l*size+(M-l)*size<=g.lim id;omega
  ·have e1:zy id off l h size m= .sle:=by
    unfold zy;rw[e0,show Nat.ble (Nat.succ l) h=false from by rw[ble_eq];simpa using cY]
   rw[e1];have:h-l=0:=by omega
   rw[this];exact .sle
def IE {id:Nat} {cap:Cp} {lo hi mx:bP} {z:SV} (h:xJ E e id off n cap lo hi mx=some z):
  ∃ie,E.ty.get e=some ie/\lo.getD 0<=hi.getD n/\hi.getD n<=reach cap n/\(∀m,mx=some m->hi.getD n<=m/\m<=reach cap n)/\(∀e',cap= .u e'->e'=e)/\z=zy id off (lo.getD 0) (hi.getD n) ie.size (orC mx cap):=by
 let ⟨ie,hie,h⟩:=aq h;let ⟨hc,h⟩:=aV h;cases h;rw[bF,bF,bF] at hc;refine ⟨ie,hie,(bV _ _).1 hc.2.1,(bV _ _).1 hc.2.2.1,λm hm=> ?_,λe' he=>by subst he;exact (beq_iff _ _).1 hc.1,rfl⟩
 subst hm;have:=hc.2.2.2;simp only[akJ,bF] at this;exact ⟨(bV _ _).1 this.1,(bV _ _).1 this.2⟩
def afR (hE:dW E g) {tm:Tf} (ed:FR g nt tm a.tmps) {x z:SV} (hv:VR g v x) {mx:Option Operand} {l u m:bP} (hl:j1 tm lo=some l) (hu:j1 tm hi=some u) (hm:j1 tm mx=some m) (fV:Bb E t x l u m=some z):
  ∃r,(Instr.sliceAt t v (lo.map a.eval) (hi.map a.eval) (mx.map a.eval)).run E.P w= .ok r w/\VR g r z:=by
 let ⟨i,sW,ho⟩:=aq fV;let ⟨hmh,ho⟩:=aV ho;have h4:m≠none->u≠none:=by
  intro hm hu;subst hu;cases m with
  |none=>exact hm rfl
  |some k=>simp[axj] at hmh
 have hd:=(hE.ty t i sW).desc;generalize i.desc=D at hd ho;cases D with
 |string=>
  let ⟨s,hs,ho⟩:=aq (show az (strOf x) (λs=>aak s l u m)=some z from ho)
  obtain rfl:=mV hs;cases hv;cases m with
  |some _=>cases ho
  |none=>
   let ⟨hc,ho⟩:=aV (show aQ (Nat.ble (l.getD 0) (u.getD s.size)&&Nat.ble (u.getD s.size) s.size) (some (SV.str (s.extract (l.getD 0) (u.getD s.size)))) none=some z from ho);cases ho;rw[bF] at hc;have hmx:mx=none:=by
    rcases yn ed hm with ⟨rfl,_⟩|⟨_,_,_,_,hx,_⟩
    ·rfl
    ·simp at hx
   subst hmx;have hb:=pJ (P:=E.P) (w:=w) ed hl hu (mx:=none) (m:=none) rfl false s.size s.size ((bV _ _).1 hc.1) ((bV _ _).1 hc.2) (dg _) (by simp)
   refine ⟨.string (s.extract (l.getD 0) (u.getD s.size)),?_,.str _⟩;simp only[SJ] at hb;simp only[Instr.sliceAt,Sem.run_bind,run_underlying (show E.P.underlying t=some .string from hd),Result.andThen_ok,Instr.slice,SJ,Option.isSome_none,aC,aA,Sem.run_ite,Sem.run_pure,hb]
 |slice e=>
  let ⟨ie0,hie0,ho⟩:=aq (show az (E.ty.get e) (λ_=>ID x E e l u m)=some z from ho)
  cases hv with
  | @sl id off n b o c cap hρ hn jm vy=>
   obtain ⟨ie,hie,c1,c2,c3,c4,rfl⟩:=IE (show xJ E e id off n cap l u m=some z from ho);have BE:reach cap n<=c:=by
    cases cap with
    |u e'=>exact hn
    |k m=>rw[jm m rfl];exact dg _
   have hb:=pJ (P:=E.P) (w:=w) ed hl hu hm true n c c1 (by
    cases m with
    |none=>simp;omega
    |some k=>exact (c3 k rfl).1) (by
    cases m with
    |none=>simp
    |some k=>simp;have:=(c3 k rfl).2;omega) h4
   refine ⟨_,?_,aiy (M:=m.getD c) hρ c1 (by
    cases m with
    |none=>simp;omega
    |some k=>exact (c3 k rfl).1) (λk hk=> ?_) (λe' hk=> ?_)⟩
   ·simp only[Instr.sliceAt,Sem.run_bind,run_underlying (show E.P.underlying t=some (.slice e) from hd),Result.andThen_ok,Instr.slice,hb,oF (hE.ty _ ie hie),Sem.run_pure];congr 2;split<;>rfl
   ·cases m with
    |some k'=>cases hk;rfl
    |none=>exact jm k hk
   ·cases m with
    |some k'=>cases hk
    |none=>
     have hk:cap= .u e':=hk;let ⟨l1,l2⟩:=vy e' hk;have he:=c4 e' hk;subst he;have mH:=hE.size hie;exact ⟨l1,mH.symm,by rw[<-mH];exact l2⟩
  | @sle ad c=>
   let ⟨hc,ho⟩:=aV (show aQ (nv l&&(nv u&&m.isNone)) (some SV.sle) none=some z from ho);cases ho;rw[bF,bF] at hc;have z1:=yA hc.1;have z2:=yA hc.2.1;have hm0:m=none:=by cases m with|none=>rfl|some k=>simp at hc
   subst hm0;have hb:=pJ (P:=E.P) (w:=w) ed hl hu hm true 0 c (by rw[z1];omega) (by rw[z2];simp) (dg _) h4
   rw[z1,z2] at hb;refine ⟨.slice (if c=0 then ad else ad.map (·.add (0*ie0.size))) (0-0) (c-0),?_,.sle⟩
   simp only[Instr.sliceAt,Sem.run_bind,run_underlying (show E.P.underlying t=some (.slice e) from hd),Result.andThen_ok,Instr.slice,hb,oF (hE.ty _ ie0 hie0),Sem.run_pure,Kw]
  |dE=>
   let ⟨hc,ho⟩:=aV (show aQ (nv l&&(nv u&&nv m)) (some SV.dE) none=some z from ho);cases ho;rw[bF,bF] at hc;have z1:=yA hc.1;have z2:=yA hc.2.1;have z3:=yA hc.2.2;have hb:=pJ (P:=E.P) (w:=w) ed hl hu hm true 0 0 (by rw[z1];omega) (by rw[z2];omega) (by rw[z3];omega) h4
   rw[z1,z2,z3] at hb;refine ⟨.slice none 0 0,?_,.dE⟩;simp only[Instr.sliceAt,Sem.run_bind,run_underlying (show E.P.underlying t=some (.slice e) from hd),Result.andThen_ok,Instr.slice,hb,oF (hE.ty _ ie0 hie0),Sem.run_pure];simp
  |_=>cases ho
 |array n e=>
  let ⟨q,hq,ho⟩:=aq (show az (vd x) (λq=>xJ E e q.1 q.2 n (.k n) l u m)=some z from ho)
  obtain rfl:=oe hq;obtain ⟨ie,hie,c1,c2,c3,c4,rfl⟩:=IE ho;have c2:u.getD n<=n:=c2;have c3:∀k,m=some k->u.getD n<=k/\k<=n:=c3;cases hv with
  | @ptr _ _ b o hρ=>
   have hb:=pJ (P:=E.P) (w:=w) ed hl hu hm false n n c1 (by
    cases m with
    |none=>simpa using c2
    |some k=>exact (c3 k rfl).1) (by
    cases m with
    |none=>simp
    |some k=>simpa using (c3 k rfl).2) h4
   refine ⟨_,?_,aiy (M:=m.getD n) hρ c1 (by
    cases m with
    |none=>simpa using c2
    |some k=>exact (c3 k rfl).1) (λk hk=> ?_) (λe' hk=>by cases m<;>cases hk)⟩
   ·simp only[Instr.sliceAt,Sem.run_bind,run_underlying (show E.P.underlying t=some (.array n e) from hd),Result.andThen_ok,Instr.sureAddr,Sem.run_pure,hb,oF (hE.ty _ ie hie)]
   ·cases m with
    |some k'=>cases hk;rfl
    |none=>cases hk;rfl
 |_=>cases ho
end
section
variable {E:Env} {g:Gh} {f:Hf} {w:World}
variable {P:Program} {u2:Value}
def BS {id:Nat} {old:aY} (h:mj f id off n=some old):∃x e cs,f id=some x/\je (some x) off n=some (e,cs)/\off+n<=cs.length/\old=(cs.drop off).take n:=by
 let ⟨p,hp,h⟩:=aq h;let ⟨hc,h⟩:=aV h;cases h;cases hf:f id with
 |none=>rw[hf] at hp;cases hp
 |some x=>exact ⟨x,p.1,p.2,rfl,by rw[<-hf];exact hp,(bV _ _).1 hc,rfl⟩
def agq (s:ByteArray):gN g (byteCells s) (L5 s):=by
 unfold byteCells L5;generalize s.data.toList=l;induction l with
 |nil=>exact .nil
 |cons b l ih=>exact .cons rfl (.int _ _ (by simp[SI.ev])) ih
def ati {P : Program} {size : Nat} {tx : TypeId} (hk : (∃ e', P.underlying tx = some (.slice e')) \/ P.underlying tx = some .string) (h : HR g f w) {x : SV} {u : Value} (hu : VR g u x) {q : Nat × aY} (hs : u9 f size x = some q) :
    ∃ news, Src P size tx u q.1 news w /\ gN g news q.2 := by
  have row : A5 f size x = some q -> ∃ news, Src P size tx u q.1 news w /\ gN g news q.2 := by
    intro hs
    obtain ⟨n, xs, h1, h2, h3⟩ := bp hs
    cases h3
    rcases Wz h1 with ⟨id, off, c, rfl⟩ | ⟨rfl, rfl⟩ | ⟨rfl, rfl⟩
    · cases hu with
      | @sl _ _ _ b o c' _ hρ hn jm vy =>
        obtain ⟨x0, e, cs, q1, q1', q2, rfl⟩ := BS (show mj f id off (n * size) = some xs from h2)
        obtain ⟨vs, v1, v2, v3⟩ := OR.fT (h.at q1 hρ).2 q1' q2
        have sS : ∀ (j : Nat) (v : Value), vs[j]? = some v -> w.cell? ((⟨b, o + off, none⟩ : Addr).add j) = some v := λj v hv => by rw [add_lit]; exact v3 j v hv
        exact ⟨vs, ⟨hk, λ_ => rfl, run_firstCells_some w size n _ n c' vs v1 sS, run_firstCells_some w.drew size n _ n c' vs v1 (by simpa using sS), v1, v2.one⟩, v2⟩
    · cases hu
      cases h2
      exact ⟨[], ⟨hk, λ_ => rfl, run_firstCells_none w size 0 0 0, run_firstCells_none w.drew size 0 0 0, by simp, λ_ h => by cases h⟩, .nil⟩
    · cases hu with
      | @sle ad c =>
        cases h2
        refine ⟨[], ⟨hk, λ_ => rfl, ?_, ?_, by simp, λ_ h => by cases h⟩, .nil⟩ <;>
          (cases ad with
           | none => exact run_firstCells_none _ size 0 0 c
           | some a => exact run_firstCells_some _ size 0 a 0 c [] (by simp) (by simp))
  cases hu with
  | str s =>
    obtain ⟨h1, h2⟩ := aV (show aQ (Nat.beq size 1) (some (s.size, L5 s)) none = some q from hs)
    cases h2
    have := (beq_iff _ _).1 h1
    subst this
    refine ⟨byteCells s, ⟨hk, λ_ => rfl, firstCells_string s w, firstCells_string s w.drew, by rw [byteCells_length, Nat.mul_one], λu hu => by
      obtain ⟨_, _, rfl⟩ := cO.1 hu
      rfl⟩, agq s⟩
  | _ => exact row hs
def CL (hE:dW E g) (h:HR g f w) (hn:g.Z new=none) {ie:TI} (ht:E.P.underlying t=some (.slice e)) (hie:E.ty.get e=some ie) (js:pT ie=true) {m:Nat} {olds news:fu} {old xs:aY} (ho:gN g olds old) (hol:olds.length=n*ie.size) (hold:(Builtin.firstCells ie.size n (.slice base n c)).run E.P w.drew= .ok olds.toArray w.drew) (hs:Src E.P ie.size tx u m news w) (hx:gN g news xs) (hgr:c<n+m) (h1:n<=1000000) (h2:m<=1000000):
  ∃r w' g',(Builtin.append_ #[t,tx] ty #[.slice base n c,u]).run E.P w= .ok r w'/\gZ g f w (.sl new 0 (n+m) (.u e)) [(new,some (.cells e (old++xs)))] new r g' w':=by
 have hT:=hE.ty e ie hie;let ⟨it,z,q1,q2,_,_,q5,_⟩:=hT.info;let ⟨_,_,z3,z4,z5⟩:=Ck (g:=g) hT q1 q5 js 0;have ln:=run_append_grow_src (P:=E.P) w t tx ty e it z ht q1 q5 base n c olds (by rw[q2];exact hold) u m news (by rw[q2];exact hs) hgr (by omega) (growslice_fits hgr (by
  have:(n+m)*it.bytes<=2000000*65536:=Nat.mul_le_mul (by omega) z4
  omega))
 have hge:=grownCap_ge w (n+m) c e;have hnl:=hs.newsLen;refine ⟨_,_,_,ln,h.row hn (w0:=w.drew) (l:=grownCap w (n+m) c e*ie.size) ⟨rfl,rfl,rfl,rfl⟩ rfl (ho.append hx) (λj v hv=> ?_) ?_ ?_⟩
 ·rw[Ia,H9]
  ·exact hv
  ·simpa using (bY.1 hv).1
 ·simp only[Array.size_append,List.size_toArray,gO,size_zeroCells,z5,hol,hnl];rw[<-gD,<-gD];exact kK _ (by omega)
 ·exact .sl (id:=new) (off:=0) (o:=0) (b:=w.heap.size) (cap:=.u e) (Gh.jf _ _ _ _ _) hge (λk hk=>by cases hk) (λe' he=>by
   cases he;refine ⟨Gh.AQ _ _ _ _ _,?_⟩;rw[Gh.ye];show 0+grownCap w (n+m) c e*g.sz e<=_;rw[hE.size hie];omega)
def DH (ht:P.underlying t=some (.slice e)) (hi:P.info? e=some it) (uO:n<=c) (hs:Src P it.size tx u 0 [] w):
  (Builtin.append_ #[t,tx] ty #[.slice base n c,u]).run P w= .ok (.slice base n c) w:=by
 have hc:=hs.cells;rcases hs.kind with ⟨e',hk⟩|hk<;>cases base<;>simp[Builtin.append_,run_underlying ht,run_underlying hk,sizeOf,typeInfo,hi,hs.len,uO,hc,storeCells]
def Ng (ht:P.underlying t=some (.slice e)) (hi:P.info? e=some it) {m:Nat} {news:fu} (hs:Src P it.size tx u m news w) (my:n+m<=c) (mT:(storeCells ⟨b,o+n*it.size,none⟩ news 0).run P w= .ok () w'):
  (Builtin.append_ #[t,tx] ty #[.slice (some ⟨b,o,none⟩) n c,u]).run P w= .ok (.slice (some ⟨b,o,none⟩) (n+m) c) w':=by
 rcases hs.kind with ⟨e',hk⟩|hk<;>simp[Builtin.append_,run_underlying ht,run_underlying hk,sizeOf,typeInfo,hi,hs.len,my,hs.cells,add_lit,mT]
def aCf (hE:dW E g) {ix:TI} (yW:E.ty.get tx=some ix) (hr:II ix.desc=true):(∃e',E.P.underlying tx=some (.slice e'))\/E.P.underlying tx=some .string:=by
 have hd:=(hE.ty tx ix yW).desc;generalize ix.desc=D at hd hr;cases D<;>simp[II] at hr
 ·exact .inr hd
 ·exact .inl ⟨_,hd⟩
def arc {x:SV} (h:Vj x=true):(∃i o n c,x= .sl i o n c)\/x= .dE\/x= .sle:=by
 cases x<;>first|exact .inl ⟨_,_,_,_,rfl⟩|exact .inr (.inl rfl)|exact .inr (.inr rfl)|cases h
def gZ.kill (h:HR g f w) {id:Nat} {v:SV} {us:dQ} {g':Gh} (hp:gZ g (jo f (id,none)) w v us new r g' w'):gZ g f w v ((id,none)::us) new r g' w':=
 ⟨hp.val,hp.hr,(h.kill id).2.trans hp.fr,hp.ro,λxY=>by cases xY⟩
def acL (hE:dW E g) (h:HR g f w) (hn:g.Z new=none) {ix:TI} {s x:SV} (h1:VR g u1 s) (h2:VR g u2 x) (yW:E.ty.get tx=some ix) (Vp:II ix.desc=true) {v:SV} {us:dQ} (fV:nN E f new t s x=some (v,us)):∃r w' g',(Builtin.append_ #[t,tx] ty #[u1,u2]).run E.P w= .ok r w'/\gZ g f w v us new r g' w':=by
 let ⟨i,hi,ho⟩:=aq fV;let ⟨e,he,ho⟩:=aq ho;let ⟨ie,hie,ho⟩:=aq (show az (E.ty.get e) _=some (v,us) from ho);let ⟨js,ho⟩:=aV ho;let ⟨q,hq,ho⟩:=aq ho;let ⟨hq1,ho⟩:=aV ho;have hq1:q.1<=1000000:=(bV _ _).1 hq1;have ht:=(hE.ty t i hi).desc;rw[uG he] at ht;have ht:E.P.underlying t=some (.slice e):=ht;have hT:=hE.ty e ie hie;let ⟨it,z,q1,q2,_,_,q5,_⟩:=hT.info;let ⟨_,_,z3,z4,z5⟩:=Ck (g:=g) hT q1 q5 js 0;let ⟨news,hs,hx⟩:=ati (aCf hE yW Vp) h h2 hq;rw[bH] at ho;split at ho
 ·rename_i h0;have h0:=(beq_iff _ _).1 h0;let ⟨EG,ho⟩:=aV ho;cases ho;have hnl:=hs.newsLen;rw[h0] at hs hnl;have:news= []:=sn (by simpa using hnl)
  subst this;rw[<-q2] at hs;rcases arc EG with ⟨id,off,n,cp,rfl⟩|rfl|rfl
  ·cases h1 with
   |sl hρ uO jm vy=>exact ⟨_,w,g,DH ht q1 uO hs,gZ.same h (.sl hρ uO jm vy)⟩
  ·cases h1;exact ⟨_,w,g,DH ht q1 (dg _) hs,gZ.same h .dE⟩
  ·cases h1;exact ⟨_,w,g,DH ht q1 (qK _) hs,gZ.same h .sle⟩
 ·rename_i h0;have h0:q.1≠0:=λe=>h0 ((beq_iff _ _).2 e)
  cases h1 with
  |dE=>
   cases (show some (SV.sl new 0 q.1 (.u e),[(new,some (SO.cells e q.2))])=some (v,us) from ho);have:=CL hE h hn (ty:=ty) (n:=0) (c:=0) (base:=none) (olds:= []) (old:= []) ht hie js .nil (by simp) (run_firstCells_none _ _ _ _ _) hs hx (by omega) (by omega) hq1
   simpa using this
  | @sl id off n b o c cap hρ uO jm vy=>
   let ⟨xh,ho⟩:=aV (show aQ (Nat.ble n 1000000) (aQ (XF n q.1 cap) (az (mj f id off (Nat.mul n ie.size)) λold=>wv new e (Nat.add n q.1) (old++q.2) []) (bT (nq (f id)) (mj f id off (Nat.mul n ie.size)) λp old=>Qy new e ie.size id off n cap q.1 q.2 p old)) none=some (v,us) from ho)
   have xh:n<=1000000:=(bV _ _).1 xh;rw[bH] at ho;split at ho
   ·rename_i Jl;let ⟨old,hold,ho2⟩:=aq ho;obtain ⟨x0,e',cs',r1,r1',r2,rfl⟩:=BS hold;have uN:=(h.at r1 hρ).2;let ⟨vs,v1,v2,v3⟩:=OR.fT uN r1' r2;have P4:(Builtin.firstCells ie.size n (.slice (some ⟨b,o+off,none⟩) n c)).run E.P w.drew= .ok vs.toArray w.drew:=
     run_firstCells_some w.drew ie.size n _ n c vs v1 (λj v hv=>by rw[add_lit];simpa using v3 j v hv)
    cases cap with
    |u e0=>cases Jl
    |k c0=>
     have hc0:=jm c0 rfl;subst hc0;have hgr:c<n+q.1:=(bV _ _).1 Jl;cases ho2;exact CL hE h hn ht hie js v2 v1 P4 hs hx hgr xh hq1
   ·let ⟨p,old,hp,hold,ho⟩:=bp ho;have hf:=kU hp;obtain ⟨x0,e',cs',r1,r1',r2,rfl⟩:=BS hold;rw[hf] at r1;cases r1;cases r1';have o4:Cells g w id b o p.1 p.2:=(h.at hf hρ).2;let ⟨vs,v1,v2,v3⟩:=o4.fT off (n*ie.size) r2;have P4:(Builtin.firstCells ie.size n (.slice (some ⟨b,o+off,none⟩) n c)).run E.P w.drew= .ok vs.toArray w.drew:=
     run_firstCells_some w.drew ie.size n _ n c vs v1 (λj v hv=>by rw[add_lit];simpa using v3 j v hv)
    have grow:c<n+q.1->∃r w' g',(Builtin.append_ #[t,tx] ty #[.slice (some ⟨b,o+off,none⟩) n c,u2]).run E.P w= .ok r w'/\gZ g f w (.sl new 0 (n+q.1) (.u e)) [(new,some (.cells e ((p.2.drop off).take (n*ie.size)++q.2)))] new r g' w':=
     λhgr=>CL hE h hn ht hie js v2 v1 P4 hs hx hgr xh hq1
    have hxl:q.2.length=q.1*ie.size:=by rw[<-hx.length];exact hs.newsLen
    cases cap with
    |k c0=>
     have hc0:=jm c0 rfl;subst hc0;have ho:aQ (Nat.ble (Nat.add n q.1) c)
      (aQ (Nat.ble (Nat.add off (Nat.mul (Nat.add n q.1) ie.size)) p.2.length) (some (SV.sl id off (Nat.add n q.1) (.k c),[(id,some (SO.cells p.1 (eK p.2 (Nat.add off (Nat.mul n ie.size)) q.2)))])) none)
      (wv new e (Nat.add n q.1) ((p.2.drop off).take (n*ie.size)++q.2) [])=some (v,us):=ho
     rw[bH] at ho;split at ho
     ·rename_i hle;have hle:n+q.1<=c:=(bV _ _).1 hle;let ⟨auI,ho⟩:=aV ho;have auI:off+(n+q.1)*ie.size<=p.2.length:=(bV _ _).1 auI;cases ho;let ⟨w',s1,s2,s3,s4,s5,s6,s7⟩:=o4.store (P:=E.P) (off:=off+n*ie.size) hx (by rw[hxl];rw[gD] at auI;omega)
      let ⟨t1,t2⟩:=h.write (o':=.cells p.1 (eK p.2 (off+n*ie.size) q.2)) hf hρ s3 s4 s2 s5 s6 s7;refine ⟨_,w',g,Ng ht q1 (by rw[q2];exact hs) hle (by rw[q2,fU];exact s1),⟨?_,t1,t2,λ_ _=>rfl,λ_=>rfl⟩⟩
      exact .sl hρ hle jm (λe he=>by cases he)
     ·rename_i hle;have hle:¬n+q.1<=c:=λe=>hle ((bV _ _).2 e)
      cases ho;exact grow (by omega)
    |u e0=>
     let ⟨l1,l2⟩:=vy e0 rfl;let ⟨hc,ho⟩:=aV (show aQ (Nat.ble (Nat.add off (Nat.mul n ie.size)) p.2.length&&Nat.beq e p.1) (wv new e (Nat.add n q.1) ((p.2.drop off).take (n*ie.size)++q.2) [(id,none)]) none=some (v,us) from ho);cases ho;rw[bF] at hc;have sY:off+n*ie.size<=p.2.length:=(bV _ _).1 hc.1;have Jr:e=p.1:=(beq_iff _ _).1 hc.2;have he0:e0=e:=by rw[<-l1,o4.et,Jr]
     subst he0;rw[hE.size hie] at l2;by_cases hle:n+q.1<=c
     ·let ⟨⟨cur,m1,m0,vs0,m2,m3⟩,m4⟩:=o4;have my:o+(off+n*ie.size)+news.length<=cur.size:=by
       have:=kK ie.size hle;rw[hs.newsLen];rw[gD] at this;omega
      have ln:=run_storeCells_at E.P b (o+(off+n*ie.size)) p.1 news 0 cur w m1 (by omega) hs.one
      simp only[ng] at ln;have hol:=v1;have uN:OR (g.bind new (b,o+off) (g.lim id-off) e0) (w.setRow b (cur.toList.take (o+(off+n*ie.size))++news++cur.toList.drop (o+(off+n*ie.size)+news.length)).toArray) new b (o+off) (.cells e0 ((p.2.drop off).take (n*ie.size)++q.2)):=by
       refine ⟨⟨(cur.toList.take (o+(off+n*ie.size))++news++cur.toList.drop (o+(off+n*ie.size)+news.length)).toArray,?_,?_,vs++news,(v2.append hx).mono (Gh.EB hn),λj v hv=> ?_⟩,Gh.AQ _ _ _ _ _⟩
       ·rw[Jr];exact setRow_heap w b cur _ p.1 _ m1
       ·rw[Gh.ye];simp;omega
       ·rw[H9,z6 (by simp;omega)]
        by_cases hj:j<n*ie.size
        ·rw[nR (by omega)] at hv
         rw[aL (by omega)]
         have:=v3 j v hv;rw[tF m1] at this;simpa using this
        ·have fS:j<vs.length+news.length:=by have:=(bY.1 hv).1;simpa using this
         rw[nf (by omega)] at hv
         rw[aH (by omega),<-hv]
         congr 1;omega
      let ⟨t1,t2⟩:=h.rename (o':=.cells e0 ((p.2.drop off).take (n*ie.size)++q.2)) hn hf hρ (by simp) (λk hk=>setRow_other w b k _ hk) uN rfl rfl rfl
      refine ⟨_,_,_,Ng ht q1 (by rw[q2];exact hs) hle (by rw[q2,fU];exact ln),⟨?_,t1,t2,λk hk=>Gh.lH _ _ _ _ hk,λxY=>by cases xY⟩⟩
      exact .sl (id:=new) (off:=0) (o:=o+off) (b:=b) (cap:=.u e0) (Gh.jf _ _ _ _ _) hle (λk hk=>by cases hk) (λe' he=>by
       cases he;refine ⟨Gh.AQ _ _ _ _ _,?_⟩;rw[Gh.ye];show 0+c*g.sz e0<=_;rw[hE.size hie];omega)
     ·let ⟨k1,_⟩:=h.kill id;let ⟨r,w',g',a1,a2⟩:=CL hE k1 hn (ty:=ty) ht hie js v2 v1 P4 hs hx (by omega) xh hq1
      exact ⟨r,w',g',a1,a2.kill h⟩
  |_=>cases ho
end
end Go.bX
namespace Go.bX
open Go.RowKit Go.MapKept
variable {k:IntKind} {u u1:Value} {P:Program} {t ty:TypeId} {new n nt:Nat} {tq mx:Bool} {J:Type} {a:Act} {b:Builtin} {ts:Array TypeId}
section
variable {E:Env} {g:Gh} {f:Hf} {w:World}
variable {u2:Value}
def iI.get:∀{ms:List MapEntry} {xs:ji},iI g ms xs->∀{j:Nat} {x:SV×SV×Nat},xs[j]? =some x->∃m,ms[j]? =some m/\ang g m x
 |_,_,.nil,_,_,h=>by simp at h
 |_,_,.cons hd ht,j,x,h=>by
  cases j with
  |zero=>simp at h;subst h;exact ⟨_,rfl,hd⟩
  |succ j=>simp at h;let ⟨m,a,b⟩:=ht.get h;exact ⟨m,by simpa using a,b⟩
def iI.length:∀{ms:List MapEntry} {xs:ji},iI g ms xs->ms.length=xs.length
 |_,_,.nil=>rfl
 |_,_,.cons _ ht=>by simp[ht.length]
def iI.append:∀{ms ns:List MapEntry} {xs ys:ji},iI g ms xs->iI g ns ys->iI g (ms++ns) (xs++ys)
 |_,_,_,_,.nil,k=>k
 |_,_,_,_,.cons hd ht,k=>.cons hd (ht.append k)
def iI.set:∀{ms:List MapEntry} {xs:ji},iI g ms xs->∀{m:MapEntry} {x:SV×SV×Nat},ang g m x->∀(j:Nat),iI g (ms.set j m) (xs.set j x)
 |_,_,.nil,_,_,_,j=>by simpa using .nil
 |_,_,.cons hd ht,_,_,h,0=>by simpa using .cons h ht
 |_,_,.cons hd ht,_,_,h,j+1=>by simpa using .cons hd (ht.set h j)
def M4 {k:SV} {D:UD} (hl:I4 k D=true) (hd:J8 P t D) (hu:VR g u k):∃d,P.underlying t=some d/\IsKey d u/\
  (∀(y:SV) (b:Bool) (u':Value),sameKey k y=some b->VR g u' y->Instr.sameNow d u u'=some b/\(b=true->u'=u)):=by
 cases hu with
 |bool a=>
  obtain rfl:=abp (show LH D=true from hl);refine ⟨.bool,hd,trivial,λy b u' hs sd=> ?_⟩
  let ⟨p,q,h1,h2,h3⟩:=bp (show bT (oU (.bool a)) (oU y) (λa b=>some (a==b))=some b from hs)
  cases h1;obtain rfl:=uS h2;cases sd;cases h3;exact ⟨rfl,λe=>by
   have:a=q:=by simpa using e
   rw[this]⟩
 | @int k e n he=>
  have hl:(isLit e&&akX k D)=true:=hl;rw[bF] at hl;let ⟨hl1,EK⟩:=hl;obtain rfl:D= .int k:=by
   cases D with
   |int k'=>rw[nn EK]
   |_=>cases EK
  cases e with
  |lit n0=>
   subst he;refine ⟨.int k,hd,rfl,λy b u' hs sd=> ?_⟩
   let ⟨p,h1,h2⟩:=aq (show az (intOf y) (λp=>aQ (gI k p.1) (awN (.lit n) p.2) none)=some b from hs)
   let ⟨hk,h3⟩:=aV h2;have hk:=nn hk;obtain rfl:=rH h1;let ⟨pk,pe⟩:=p;simp only at hk h3 sd;subst hk;cases pe with
   |lit m=>
    cases sd with
    | @int _ _ m' e2=>
     subst e2;cases h3;rw[AM];refine ⟨?_,λe=> ?_⟩
     ·simp only[Instr.sameNow,aB,SI.ev];congr 1
     ·have:n=m':=by simpa using e
      rw[this]
 |str s=>
  obtain rfl:=agn (show EF D=true from hl);refine ⟨.string,hd,trivial,λy b u' hs sd=> ?_⟩
  let ⟨p,q,h1,h2,h3⟩:=bp (show bT (strOf (.str s)) (strOf y) (λa b=>some (Dk a b))=some b from hs)
  cases h1;obtain rfl:=mV h2;cases sd;cases h3;rw[vI];refine ⟨?_,λe=> ?_⟩
  ·simp only[Instr.sameNow];congr 1;rw[ly,bytes_beq];simp
  ·have:s=q:=by simpa using e
   rw[this]
 |_=>cases hl
def GQ {k:SV} {u:Value} {d:TypeDesc} (hk:∀(y:SV) (b:Bool) (u':Value),sameKey k y=some b->VR g u' y->Instr.sameNow d u u'=some b/\(b=true->u'=u)):
  ∀{ms:List MapEntry} {es:ji},iI g ms es->∀(i:Nat) (r:Option (Nat×SV×Nat)),pQ k es i=some r->
   (r=none/\Instr.findNow d u ms i=some none)\/∃j x m,r=some (i+j,x.2.1,x.2.2)/\es[j]? =some x/\ms[j]? =some m/\m.key=u/\Instr.findNow d u ms i=some (some (i+j,m.val))
 |_,_,.nil,i,r,h=>by cases h;exact .inl ⟨rfl,rfl⟩
 |_,_,.cons (m:=m) (x:=x) (ms:=ms) (xs:=es) hd ht,i,r,h=>by
  unfold pQ at h;cases hs:sameKey k x.1 with
  |none=>rw[hs] at h;cases h
  |some b=>
   rw[hs] at h;let ⟨h1,h2⟩:=hk x.1 b m.key hs hd.1;cases b with
   |true=>
    cases h;exact .inr ⟨0,x,m,rfl,rfl,rfl,h2 rfl,by simp[Instr.findNow,h1]⟩
   |false=>
    rcases GQ hk ht (i+1) r h with ⟨q1,q2⟩|⟨j,y,m',q1,q2,q3,q4,q5⟩
    ·exact .inl ⟨q1,by simp[Instr.findNow,h1,q2]⟩
    ·refine .inr ⟨j+1,y,m',by rw[q1];congr 2;omega,by simpa using q2,by simpa using q3,q4,?_⟩
     simp[Instr.findNow,h1,q5];omega
def abi (hE:dW E g) (h:HR g f w) {x k z:SV} (h1:VR g u1 x) (h2:VR g u2 k) {ok:Bool} (fV:sD E f t x k ok=some z):
  ∃r,(Instr.lookup t u1 u2 ok).run E.P w= .ok r w/\VR g r z:=by
 let ⟨i,hi,ho⟩:=aq fV;let ⟨q,hq,ho⟩:=aq ho;let ⟨ik,ie,hik,hie,ho⟩:=bp ho;let ⟨hl,ho⟩:=aV ho;let ⟨es,hes,ho⟩:=aq ho;let ⟨r,hr,ho⟩:=aq ho;have ht:=(hE.ty t i hi).desc;rw[I2 hq] at ht;have ht:E.P.underlying t=some (.map q.1 q.2):=ht;let ⟨d,hd,Jh,alf⟩:=M4 hl (hE.ty _ ik hik).desc h2;let ⟨zv,z1,z2,z3⟩:=aap (hE.ty _ ie hie);have main:∀(ms:Array MapEntry),iI g ms.toList es->(Instr.checkKey ms.isEmpty 10000 q.1 u2).run E.P w= .ok () w/\∃a rv,(Instr.findKey q.1 u2 ms.toList).run E.P w= .ok a w/\VR g rv z/\
   ((a=none/\rv=if ok then Value.tuple #[zv,.bool false] else zv)\/∃j v,a=some (j,v)/\rv=if ok then Value.tuple #[v,.bool true] else v):=by
  intro ms hms;refine ⟨run_checkKey (P:=E.P) (w:=w) hd Jh ms.isEmpty 9999,?_⟩;rcases GQ alf hms 0 r hr with ⟨rfl,q2⟩|⟨j,y,m,rfl,q2,q3,q4,q5⟩
  ·let ⟨zz,hz,ho⟩:=aq (show az (ij ie ie.zero 0) (λz=>some (okV ok z false))=some z from ho)
   cases ho;refine ⟨none,_,run_findKey (P:=E.P) (w:=w) hd q2,?_,.inl ⟨rfl,rfl⟩⟩;have:=akB (g:=g) z2 z3 hz;cases ok
   ·exact this
   ·exact .cS (.cons this (.cons (.bool false) .nil))
  ·let ⟨m',r1,r2⟩:=hms.get q2;rw[q3] at r1;obtain rfl:m=m':=by simpa using r1
   cases (show some (okV ok y.2.1 true)=some z from ho);refine ⟨_,_,run_findKey (P:=E.P) (w:=w) hd q5,?_,.inr ⟨_,_,rfl,rfl⟩⟩;cases ok
   ·exact r2.2.1
   ·exact .cS (.cons r2.2.1 (.cons (.bool true) .nil))
 cases h1 with
 |mu=>
  cases (show some ([]:ji)=some es from hes);let ⟨EN,a,rv,r1,r2,r3⟩:=main #[] .nil;refine ⟨rv,?_,r2⟩;rcases r3 with ⟨rfl,rfl⟩|⟨j,v,rfl,rfl⟩<;>simp only[Instr.lookup,Sem.run_bind,run_underlying ht,Result.andThen_ok,Sem.run_pure,EN,r1,z1]
 | @mp id b o hρ=>
  let ⟨p,hp,hes⟩:=aq (show az (j2 (f id)) (λp=>some p.1)=some es from hes)
  cases hes;have hf:=yM hp;let ⟨ms,m1,m2⟩:=(h.at hf hρ).2;let ⟨EN,a,rv,r1,r2,r3⟩:=main ms m2;refine ⟨rv,?_,r2⟩;rcases r3 with ⟨rfl,rfl⟩|⟨j,v,rfl,rfl⟩<;>simp only[Instr.lookup,Sem.run_bind,run_underlying ht,Result.andThen_ok,Sem.run_pure,MapKept.run_getObj_map m1,EN,r1,z1]
 |_=>cases hes
def We (hE:dW E g) (h:HR g f w) {x k v:SV} {u3:Value} (h1:VR g u1 x) (h2:VR g u2 k) (h3:VR g u3 v) {us:dQ} (fV:vn E f t x k v=some us):
  ∃w',(Instr.mapUpdate t u1 u2 u3).run E.P w= .ok () w'/\HR g (gz f us) w'/\Fr g f w g (gz f us) w':=by
 let ⟨id,iN,ho⟩:=aq fV;let ⟨i,hi,ho⟩:=aq ho;let ⟨q,hq,ho⟩:=aq ho;let ⟨ik,p,hik,hp,ho⟩:=bp ho;let ⟨hl,ho⟩:=aV ho;let ⟨r,hr,ho⟩:=aq ho;cases ho;obtain rfl:=Wu iN;have ht:=(hE.ty t i hi).desc;rw[I2 hq] at ht;have ht:E.P.underlying t=some (.map q.1 q.2):=ht;let ⟨d,hd,Jh,alf⟩:=M4 hl (hE.ty _ ik hik).desc h2;have hf:=yM hp;cases h1 with
 | @mp _ b o hρ=>
  let ⟨hb,ms,m1,m2⟩:=h.at hf hρ;have EN:=run_checkKey (P:=E.P) (w:=w) hd Jh false 9999;have fin:∀(Eu:Array MapEntry) (CO:ji) (c':Nat),iI g Eu.toList CO->HR g (jo f (id,some (.map CO c'))) {w with heap:=w.heap.setIfInBounds b (.map Eu c')}/\Fr g f w g (jo f (id,some (.map CO c'))) {w with heap:=w.heap.setIfInBounds b (.map Eu c')}:=by
   intro Eu CO c' he;let ⟨s1,s2⟩:=heap_set (o':=Obj.map Eu c') m1;exact h.write hf hρ (by simp) (λk hk=>s2 k hk) ⟨Eu,s1,he⟩ rfl rfl rfl
  rcases GQ alf m2 0 r hr with ⟨rfl,q2⟩|⟨j,y,m,rfl,q2,q3,q4,q5⟩
  ·have hfk:=run_findKey (P:=E.P) (w:=w) hd q2;refine ⟨_,?_,fin (ms.push {key:=u2,val:=u3,born:=p.2}) (p.1++ [(k,v,p.2)]) (p.2+1) (by rw[Array.toList_push];exact m2.append (.cons ⟨h2,h3,rfl⟩ .nil))⟩
   simp only[Instr.mapUpdate,Sem.run_bind,run_underlying ht,Result.andThen_ok,MapKept.run_getObj_map m1,EN,hfk];exact run_setObj_map _ m1
  ·have hfk:=run_findKey (P:=E.P) (w:=w) hd q5;let ⟨m',r1,r2⟩:=m2.get q2;rw[q3] at r1;obtain rfl:m=m':=by simpa using r1
   rw[cA] at hfk;have hmj:ms[j]? =some m:=by simpa using q3
   have hold:(((ms[j]?).map (·.key)).getD u2)=u2:=by rw[hmj];simpa using q4
   have EL:(Instr.keyThatStays u2 u2).run E.P w= .ok u2 w:=by simp[Instr.keyThatStays,sameBits_self Jh]
   refine ⟨_,?_,fin (ms.modify j λe=>{e with key:=u2,val:=u3}) (p.1.set (0+j) (k,v,y.2.2)) p.2 ?_⟩
   ·simp only[Instr.mapUpdate,Sem.run_bind,run_underlying ht,Result.andThen_ok,MapKept.run_getObj_map m1,EN,hfk,hold,EL];exact run_setObj_map _ m1
   ·have:(ms.modify j λe=>{e with key:=u2,val:=u3}).toList=ms.toList.set j {m with key:=u2,val:=u3}:=by
     apply xv;intro n;rw[lx,Ic,List.getElem?_set];by_cases hn:j=n
     ·subst hn;have cY:j<ms.size:=(nh.1 hmj).1;have mQ:ms[j]=m:=(nh.1 hmj).2;simp[cY,mQ]
     ·simp[hn]
    rw[this,cA];exact m2.set (m:={m with key:=u2,val:=u3}) (x:=(k,v,y.2.2)) ⟨h2,h3,r2.2.2⟩ j
end
section
variable {E:Env} {g:Gh} {f:Hf} {w:World}
def aaU (hE:dW E g) (h:HR g f w) (hn:g.Z new=none) {x:SV} (hu:VR g u x) {v:SV} {us:dQ} (fV:vQ E f new t x=some (v,us)):
  ∃r w' g',(Instr.range t u).run E.P w= .ok r w'/\gZ g f w v us new r g' w':=by
 let ⟨i,hi,ho⟩:=aq fV;let ⟨o,EI,ho⟩:=aq ho;cases ho;have ht:=(hE.ty t i hi).desc;have fin:∀(ob:Obj),(Instr.range t u).run E.P w= .ok (.pointer (some ⟨w.heap.size,0,none⟩)) (w.alloc ob)->OR (g.bind new (w.heap.size,0) 0 0) (w.alloc ob) new w.heap.size 0 o->
   ∃r w' g',(Instr.range t u).run E.P w= .ok r w'/\gZ g f w (.ptr new 0) [(new,some o)] new r g' w':=by
  intro ob ln uN;let ⟨r1,r2⟩:=h.alloc hn (o':=o) (w':=w.alloc ob) (l:=0) (e:=0) rfl uN;exact ⟨.pointer (some ⟨w.heap.size,0,none⟩),_,_,ln,⟨.ptr (o:=0) (off:=0) (Gh.jf _ _ _ _ _),r1,r2,λid cZ=>Gh.lH _ _ _ _ cZ,λxY=>by cases xY⟩⟩
 generalize i.desc=D at ht EI;cases D with
 |string=>
  have ht:E.P.underlying t=some .string:=ht;let ⟨s,hs,EI⟩:=aq (show az (strOf x) (λs=>some (SO.nF s 0))=some o from EI)
  cases EI;obtain rfl:=mV hs;cases hu;refine fin (.stringIter s 0) ?_ ⟨rfl,heap_alloc_new w _⟩;simp[Instr.range,run_underlying ht,newObj];rfl
 |map kt et=>
  have ht:E.P.underlying t=some (.map kt et):=ht;cases hu with
  |mu=>
   cases (show some (SO.mapIter none 0 [] 0)=some o from EI);refine fin (.mapIter none 0 #[] 0) ?_ ⟨rfl,none,#[],heap_alloc_new w _,rfl,rfl⟩;simp[Instr.range,run_underlying ht,newObj];rfl
  | @mp id b c hρ=>
   let ⟨p,hp,EI⟩:=aq (show az (j2 (f id)) (λp=>some (SO.mapIter (some id) p.2 [] p.2))=some o from EI)
   cases EI;have hf:=yM hp;let ⟨hb,ms,m1,m2⟩:=h.at hf hρ;have cZ:id≠new:=λe=>by subst e;rw[hn] at hρ;cases hρ
   refine fin (.mapIter (some b) p.2 #[] p.2) ?_ ⟨rfl,some b,#[],heap_alloc_new w _,rfl,b,c,rfl,by rw[Gh.lH _ _ _ _ cZ];exact hρ⟩
   simp[Instr.range,run_underlying ht,newObj,MapKept.run_getObj_map m1];rfl
  |_=>cases EI
 |_=>cases EI
def agb (hE:dW E g) (h:HR g f w) {x:SV} (hu:VR g u x) {v:SV} {us:dQ} (fV:yK f tq x=some (v,us)):
  ∃r w',(Instr.next u tq ty).run E.P w= .ok r w'/\gZ g f w v us new r g w':=by
 let ⟨hs,EI⟩:=aV fV;subst hs;let ⟨id,iN,ho2⟩:=aq EI;let ⟨p,hp,ho3⟩:=aq ho2;let ⟨q,hq,hid2⟩:=aq iN;let ⟨hz,hid3⟩:=aV hid2;cases hid3;have hz:=(beq_iff _ _).1 hz;obtain rfl:=oe hq;have hf:=PQ hp;cases hu with
 | @ptr _ _ b o hρ=>
  obtain ⟨hb,rfl,m1⟩:=h.at hf hρ;rw[hz];have mQ:(getObj b).run E.P w= .ok (.stringIter p.1 p.2) w:=by simp[getObj,Sem.run,m1]
  have ho:some (xQ q.1 p)=some (v,us):=ho3;unfold xQ at ho;rw[bH] at ho;split at ho
  ·rename_i cY;have cY:p.2<p.1.size:=(bV _ _).1 cY;cases ho;let ⟨s1,s2⟩:=heap_set (o':=Obj.stringIter p.1 (p.2+(Utf8.decode p.1 p.2).2)) m1;let ⟨t1,t2⟩:=h.write (o':=.nF p.1 (p.2+(Utf8.decode p.1 p.2).2)) (w':={w with heap:=w.heap.setIfInBounds b (.stringIter p.1 (p.2+(Utf8.decode p.1 p.2).2))}) hf hρ (by simp) (λk hk=>s2 k hk) ⟨rfl,s1⟩ rfl rfl rfl
   refine ⟨.tuple #[.bool true,goInt p.2,.int .i32 (Utf8.decode p.1 p.2).1],{w with heap:=w.heap.setIfInBounds b (.stringIter p.1 (p.2+(Utf8.decode p.1 p.2).2))},?_,⟨?_,t1,t2,λ_ _=>rfl,λ_=>rfl⟩⟩
   ·simp only[ng,Instr.next,Sem.run_bind,mQ,Result.andThen_ok,aH cY];simp[setObj,Sem.run,m1]
   ·exact .cS (.cons (.bool true) (.cons (.int _ _ (by simp[SI.ev])) (.cons (.int _ _ (by simp[SI.ev])) .nil)))
  ·rename_i cY;have cY:¬p.2<p.1.size:=λe=>cY ((bV _ _).2 e)
   cases ho;refine ⟨.tuple #[.bool false],w,?_,gZ.same h (.cS (.cons (.bool false) .nil))⟩;simp only[ng,Instr.next,Sem.run_bind,mQ,Result.andThen_ok,aL cY,Sem.run_pure]
def apT (hE:dW E g) (h:HR g f w) {i:TI} (hi:E.ty.get t=some i) {x z:SV} (hu:VR g u x) (fV:xS i.desc x f=some z):∃r,(Builtin.len_ #[t] ty #[u]).run E.P w= .ok r w/\VR g r z:=by
 have hd:=(hE.ty t i hi).desc;have lit:∀n:Nat,VR g (goInt n) (uy n):=λn=>.int _ _ (by simp[SI.ev])
 generalize i.desc=D at hd fV;cases D with
 |string=>
  let ⟨s,hs,ho⟩:=aq (show az (strOf x) (λs=>some (uy s.size))=some z from fV)
  cases ho;obtain rfl:=mV hs;cases hu;exact ⟨goInt s.size,by simp[Builtin.len_,run_underlying (show E.P.underlying t=some .string from hd)],lit _⟩
 |slice e=>
  let ⟨n,hn,ho⟩:=aq (show az (Vi x) (λn=>some (uy n))=some z from fV)
  cases ho;have hd:E.P.underlying t=some (.slice e):=hd;rcases Wz hn with ⟨id,off,c,rfl⟩|⟨rfl,rfl⟩|⟨rfl,rfl⟩<;>cases hu<;>exact ⟨goInt _,by simp[Builtin.len_,run_underlying hd],lit _⟩
 |array n e=>
  cases (show some (uy n)=some z from fV);have hd:E.P.underlying t=some (.array n e):=hd;exact ⟨goInt n,by simp[Builtin.len_,run_underlying hd],lit _⟩
 |map k e=>
  have hd:E.P.underlying t=some (.map k e):=hd;cases hu with
  |mu=>
   cases (show some (uy 0)=some z from fV);exact ⟨goInt 0,by simp[Builtin.len_,run_underlying hd],lit _⟩
  | @mp id b o hρ=>
   let ⟨p,hp,ho⟩:=aq (show az (j2 (f id)) (λp=>some (uy p.1.length))=some z from fV)
   cases ho;let ⟨hb,ms,m1,m2⟩:=h.at (yM hp) hρ;refine ⟨goInt ms.size,by simp[Builtin.len_,run_underlying hd,MapKept.run_getObj_map m1],?_⟩
   have:=m2.length;rw[<-this];exact lit _
  |_=>cases fV
 |_=>cases fV
def Wv (hE:dW E g) {x y z:SV} {v:Value} (hu:VR g u x) (hv:VR g v y) (fV:IZ E mx x y=some z) (ts:Array TypeId) (ty:TypeId):
  ∃r,((if mx then Builtin.max_ ts ty #[u,v] else Builtin.min_ ts ty #[u,v])).run E.P w= .ok r w/\VR g r z:=by
 let ⟨a,b,h1,h2,ho⟩:=bp fV;let ⟨r,hr,ho⟩:=aq ho;cases ho;obtain rfl:=rH h1;obtain rfl:=rH h2;cases hu with|int _ _ e1=>cases hv with|int _ _ e2=>
 subst e1;subst e2;cases mx with
 |true=>
  have:=xR hE (show CF E a.2 b.2=some r from hr);refine ⟨.int a.1 (if b.2.ev g.η>a.2.ev g.η then b.2.ev g.η else a.2.ev g.η),by simp[Builtin.max_,Builtin.max2],.int _ _ ?_⟩
  cases r with
  |true=>rw[aH (by simpa using this)]
  |false=>rw[aL (by simpa using this)]
 |false=>
  have:=xR hE (show CF E b.2 a.2=some r from hr);refine ⟨.int a.1 (if b.2.ev g.η<a.2.ev g.η then b.2.ev g.η else a.2.ev g.η),by simp[Builtin.min_,Builtin.min2],.int _ _ ?_⟩
  cases r with
  |true=>rw[aH (by simpa using this)]
  |false=>rw[aL (by simpa using this)]
def yZ {l:List J} {p:J×J} (h:uA l=some p):l= [p.1,p.2]:=by
 unfold uA at h;split at h
 ·cases h;rfl
 ·cases h
def aJh (P:Program) (o:Oper) (a:Act) (w:World) (v:Value) (w':World):Prop:=
 (execOp a.eval o).run P w= .ok (.value v) w'\/((execOp a.eval o).run P w= .ok .skip w'/\v=undef)
def IY (h:VR g u (.int k (.lit (.ofNat n)))):u= .int k (.ofNat n):=by
 cases h with
 |int _ _ e=>rw[e];rfl
def Oa {xs:Array J} {l:List J} (h:xs.toList=l):xs=l.toArray:=by apply uD;simpa using h
def D7 {us:fu} {x y:SV} (h:j8 g us [x,y]):∃u v,us= [u,v]/\VR g u x/\VR g v y:=by
 cases h with
 |cons h1 h=>cases h with
  |cons h2 h=>cases h;exact ⟨_,_,rfl,h1,h2⟩
def azv {us:fu} {x:SV} (h:j8 g us [x]):∃u,us= [u]/\VR g u x:=by
 cases h with
 |cons h1 h=>cases h;exact ⟨_,rfl,h1⟩
def Va (hE:dW E g) (h:HR g f w) {tm:Tf} (ed:FR g nt tm a.tmps) (hn:g.Z new=none) {args:Array Operand} {aa:aY} (has:fT tm args.toList=some aa) (ty:TypeId) (cs:Array Bool) {v:SV} {us:dQ} (fV:rm E f new b aa ts.toList=some (v,us)):∃r w' g',(builtin b ts ty cs (args.map a.eval)).run E.P w= .ok (.value r) w'/\gZ g f w v us new r g' w':=by
 have wB:=yG ed has;have qD:args.map a.eval=(args.toList.map a.eval).toArray:=Oa (by simp)
 rw[qD];generalize args.toList.map a.eval=vs at wB;cases b with
 |len=>
  let ⟨x,t,h1,h2,ho⟩:=bp (show bT aa.head? ts.toList.head? (λx t=>aQ (Nat.beq aa.length 1) (az (E.ty.get t) λi=>same (xS i.desc x f)) none)=some (v,us) from fV)
  let ⟨hl,ho⟩:=aV ho;let ⟨i,hi,ho⟩:=aq ho;let ⟨z,hz,ho⟩:=aq ho;cases ho;have hl:=(beq_iff _ _).1 hl;obtain rfl:aa= [x]:=by
   cases aa with
   |nil=>simp at hl
   |cons y l=>simp at hl h1;simp[hl,h1]
  obtain ⟨u,rfl,hu⟩:=azv wB;let ⟨r,r1,r2⟩:=apT (w:=w) (ty:=ty) hE h hi hu hz;refine ⟨r,w,g,?_,gZ.same h r2⟩;have ht:ts[0]? =some t:=by
   rw[<-lx];cases mS:ts.toList with
   |nil=>rw[mS] at h2;simp at h2
   |cons t' l=>rw[mS] at h2;simpa using h2
  have hl1:(Builtin.len_ ts ty #[u]).run E.P w=(Builtin.len_ #[t] ty #[u]).run E.P w:=by simp only[Builtin.len_,ht];rfl
  simp only[builtin,Sem.run_bind];rw[hl1,r1];rfl
 |append=>
  let ⟨p,q,h1,h2,ho⟩:=bp (show bT (uA aa) (uA ts.toList) (λp q=>az (E.ty.get q.2) λi=>aQ (II i.desc) (nN E f new q.1 p.1 p.2) none)=some (v,us) from fV)
  let ⟨i,hi,ho⟩:=aq ho;let ⟨hr,ho⟩:=aV ho;obtain rfl:=yZ h1;obtain rfl:=Oa (yZ h2);obtain ⟨u1,u2,rfl,k1,k2⟩:=D7 wB;let ⟨r,w',g',r1,r2⟩:=acL (ty:=ty) hE h hn k1 k2 hi hr ho;exact ⟨r,w',g',by simp only[builtin,Sem.run_bind];rw[r1];rfl,r2⟩
 |min=>
  let ⟨p,h1,ho⟩:=aq (show az (uA aa) (λp=>same (IZ E false p.1 p.2))=some (v,us) from fV)
  let ⟨z,hz,ho⟩:=aq ho;cases ho;obtain rfl:=yZ h1;obtain ⟨u1,u2,rfl,k1,k2⟩:=D7 wB;let ⟨r,r1,r2⟩:=Wv (w:=w) hE k1 k2 hz ts ty;refine ⟨r,w,g,?_,gZ.same h r2⟩;simp only[aC,aA] at r1;simp only[builtin,Sem.run_bind];rw[r1];rfl
 |max=>
  let ⟨p,h1,ho⟩:=aq (show az (uA aa) (λp=>same (IZ E true p.1 p.2))=some (v,us) from fV)
  let ⟨z,hz,ho⟩:=aq ho;cases ho;obtain rfl:=yZ h1;obtain ⟨u1,u2,rfl,k1,k2⟩:=D7 wB;let ⟨r,r1,r2⟩:=Wv (w:=w) hE k1 k2 hz ts ty;refine ⟨r,w,g,?_,gZ.same h r2⟩;simp only[aB] at r1;simp only[builtin,Sem.run_bind];rw[r1];rfl
 |_=>cases fV
end
end Go.bX
namespace Go.bX
open Go.RowKit
variable {nt new i nx:Nat} {a:Act} {o:Oper} {x:Operand} {q:Nat×Nat} {t e:TypeId} {tq b:Bool} {xs:List Operand} {D:Nat->Bool} {r u:Value} {P:Program} {K KE:Ending->World->Prop} {w':World} {c:Call} {Q:Exit->Act->World->Prop} {S:Nat->Prop} {bw:Array Bool} {need:Nat->Nat->Prop}
section
variable {E:Env} {g:Gh} {f:Hf} {w:World}
def atK (hE:dW E g) (h:HR g f w) {tm:Tf} (ed:FR g nt tm a.tmps) (hn:g.Z new=none) {v:SV} {us:dQ} (fV:qT E o.op tm f new=some (v,us)):
  ∃r w' g',aJh E.P o a w r w'/\gZ g f w v us new r g' w':=by
 let ⟨dst,op,ty,pos,after,guard⟩:=o;have val:=λ{x:Operand} {y:SV} (hx:cE tm x=some y)=>ot (g:=g) ed hx
 cases op with
 |move x=>
  let ⟨y,hy,ho⟩:=aq (show az (cE tm x) (λv=>some (v,([]:dQ)))=some (v,us) from fV)
  cases ho;exact ⟨_,w,g,.inl rfl,gZ.same h (val hy)⟩
 |assign x=>
  let ⟨y,hy,ho⟩:=aq (show az (cE tm x) (λv=>some (v,([]:dQ)))=some (v,us) from fV)
  cases ho;exact ⟨_,w,g,.inl rfl,gZ.same h (val hy)⟩
 |pick c x y=>
  let ⟨cv,hc,ho⟩:=aq (show az (cE tm c) (λv=>az (oU v) λb=>one tm (aQ b x y) λv=>some (v,([]:dQ)))=some (v,us) from fV)
  let ⟨b,hb,ho⟩:=aq ho;let ⟨z,hz,ho⟩:=aq ho;cases ho;obtain rfl:=uS hb;have hcv:a.eval c= .bool b:=by have:=val hc;generalize a.eval c=q at this;cases this;rfl
  refine ⟨if b then a.eval x else a.eval y,w,g,.inl ?_,gZ.same h ?_⟩
  ·simp only[execOp,hcv,asBool,Sem.run_bind,Sem.run_pure,Result.andThen_ok]
  ·cases b
   ·exact val hz
   ·exact val hz
 |alloc e=>
  let ⟨i,hi,ho⟩:=aq (show az (E.ty.get e) (λi=>some (SV.ptr new 0,[(new,some (SO.cells e i.zero))]))=some (v,us) from fV)
  cases ho;let ⟨z,z1,z2⟩:=ajz (hE.ty e i hi);refine ⟨.pointer (some ⟨w.heap.size,0,none⟩),_,_,.inl ?_,h.row hn (w0:=w) (w':=w.alloc (.cells z.cells e)) (l:=0) ⟨rfl,rfl,rfl,rfl⟩ rfl (z2 g) (λj v hv=>by simpa using hv) (qK _) (.ptr (o:=0) (off:=0) (Gh.jf _ _ _ _ _))⟩
  simp[execOp,Instr.alloc,z1,newVar,newRow]
 |box e x=>
  let ⟨y,hy,ho⟩:=aq (show az (cE tm x) (Xx new e)=some (v,us) from fV);let ⟨cs,hc,ho⟩:=aq ho;cases ho;refine ⟨.pointer (some ⟨w.heap.size,0,none⟩),_,_,.inl ?_,h.row hn (w0:=w) (w':=w.alloc (.cells (a.eval x).cells e)) (l:=0) ⟨rfl,rfl,rfl,rfl⟩ rfl ((val hy).je hc) (λj v hv=>by simpa using hv) (qK _) (.ptr (o:=0) (off:=0) (Gh.jf _ _ _ _ _))⟩
  simp[execOp,Instr.box,newVar,newRow]
 |build t parts=>
  let ⟨ia,hpc,ho⟩:=aq (show az (ku tm parts.toList) (λia=>same (E1 E t ia))=some (v,us) from fV)
  let ⟨x,hx,ho⟩:=aq ho;cases ho;let ⟨hl,hpt⟩:=Dt ed parts.toList ia hpc;let ⟨r,r1,r2⟩:=agr hE (parts:=parts.map λ(i,x)=>(i,a.eval x)) hx (by simpa using hl) (λj i v i' xs h1 h2=>hpt j i v i' xs (by simpa using h1) h2) w
  exact ⟨r,w,g,.inl (by simp only[execOp,Sem.run_bind,r1,Result.andThen_ok,Sem.run_pure]),gZ.same h r2⟩
 |buildSlice t len parts=>
  let ⟨ia,hpc,ho⟩:=aq (show az (ku tm parts.toList) (λia=>ti E new t len ia)=some (v,us) from fV)
  let ⟨r,w',g',r1,r2⟩:=MX hE h hn ed hpc ho;exact ⟨r,w',g',.inl (by simp only[execOp,Sem.run_bind,r1,Result.andThen_ok,Sem.run_pure]),r2⟩
 |insert t m k x=>
  let ⟨y1,y2,h1,h2,ho⟩:=bp (show bT (cE tm m) (cE tm k) (λa b=>one tm x λc=>unit (vn E f t a b c))=some (v,us) from fV)
  let ⟨y3,h3,ho⟩:=aq ho;let ⟨us',hu,ho⟩:=aq ho;cases ho;let ⟨w',r1,r2,r3⟩:=We hE h (val h1) (val h2) (val h3) hu;exact ⟨undef,w',g,.inr ⟨by simp only[execOp,Sem.run_bind,r1,Result.andThen_ok,Sem.run_pure],rfl⟩,⟨.cS .nil,r2,r3,λ_ _=>rfl,λ_=>rfl⟩⟩
 |mapUpdate t m k x=>
  let ⟨y1,y2,h1,h2,ho⟩:=bp (show bT (cE tm m) (cE tm k) (λa b=>one tm x λc=>unit (vn E f t a b c))=some (v,us) from fV)
  let ⟨y3,h3,ho⟩:=aq ho;let ⟨us',hu,ho⟩:=aq ho;cases ho;let ⟨w',r1,r2,r3⟩:=We hE h (val h1) (val h2) (val h3) hu;exact ⟨undef,w',g,.inr ⟨by simp only[execOp,Sem.run_bind,r1,Result.andThen_ok,Sem.run_pure],rfl⟩,⟨.cS .nil,r2,r3,λ_ _=>rfl,λ_=>rfl⟩⟩
 |load t x=>
  let ⟨y,hy,ho⟩:=aq (show az (cE tm x) (λv=>same (oX E f t v))=some (v,us) from fV)
  let ⟨z,hz,ho⟩:=aq ho;cases ho;let ⟨r,r1,r2⟩:=PK hE h (val hy) hz;exact ⟨r,w,g,.inl (by simp only[execOp,Sem.run_bind,r1,Result.andThen_ok,Sem.run_pure]),gZ.same h r2⟩
 |store t x y=>
  let ⟨y1,y2,h1,h2,ho⟩:=bp (show bT (cE tm x) (cE tm y) (λa v=>unit (rW E f t v a))=some (v,us) from fV)
  let ⟨us',hu,ho⟩:=aq ho;cases ho;let ⟨w',r1,r2,r3⟩:=afM hE h (val h1) (val h2) hu;exact ⟨undef,w',g,.inr ⟨by simp only[execOp,Sem.run_bind,r1,Result.andThen_ok,Sem.run_pure],rfl⟩,⟨.cS .nil,r2,r3,λ_ _=>rfl,λ_=>rfl⟩⟩
 |nilCheck x=>
  let ⟨y,hy,ho⟩:=aq (show az (cE tm x) (λv=>same (PA v))=some (v,us) from fV)
  let ⟨z,hz,ho⟩:=aq ho;cases ho;obtain ⟨rfl,hk⟩:=akG hz;have hv:=val hy;refine ⟨a.eval x,w,g,.inl ?_,gZ.same h hv⟩;rcases hk with ⟨i,o,rfl⟩|⟨fn,c1,c2,rfl⟩<;>(generalize hq:a.eval x=q at hv;cases hv;simp only[execOp,hq,Sem.run_pure])
 |binOp op t x y yt=>
  let ⟨y1,y2,h1,h2,ho⟩:=bp (show bT (cE tm x) (cE tm y) (λv u=>same (JR E op t x y v u))=some (v,us) from fV)
  let ⟨z,hz,ho⟩:=aq ho;cases ho;let ⟨r,r1,r2⟩:=arL hE hz (val h1) (val h2) w;exact ⟨r,w,g,.inl (by simp only[execOp,Sem.run_bind] at r1 ⊢;rw[r1];rfl),gZ.same h r2⟩
 |unOp op t x=>
  let ⟨y,hy,ho⟩:=aq (show az (cE tm x) (λv=>same (unA op v))=some (v,us) from fV)
  let ⟨z,hz,ho⟩:=aq ho;cases ho;let ⟨r,r1,r2⟩:=asV hz (val hy) (P:=E.P) w;exact ⟨r,w,g,.inl (by simp only[execOp,Sem.run_bind,r1,Result.andThen_ok,Sem.run_pure]),gZ.same h r2⟩
 |convert s d x=>
  let ⟨y,hy,ho⟩:=aq (show az (cE tm x) (λv=>same (LZ E s d v))=some (v,us) from fV)
  let ⟨z,hz,ho⟩:=aq ho;cases ho;let ⟨r,r1,r2⟩:=alQ hE hz (val hy) w;exact ⟨r,w,g,.inl (by simp only[execOp,Sem.run_bind,r1,Result.andThen_ok,Sem.run_pure]),gZ.same h r2⟩
 |makeFunc fn first eG=>
  let ⟨js,ho⟩:=aV (show aQ (Vc fn) (bT (fT tm first.toList) (fT tm eG.toList) λl m=>some (SV.fn fn l m,([]:dQ))) none=some (v,us) from fV)
  let ⟨l,m,h1,h2,ho⟩:=bp ho;cases ho;cases fn with
  |func k=>
   refine ⟨.func (.func k) (first.map a.eval) (eG.map a.eval),w,g,.inl ?_,gZ.same h (.fn ?_ ?_)⟩
   ·simp[execOp,Instr.makeFunc]
   ·simpa using yG ed h1
   ·simpa using yG ed h2
  |_=>cases js
 |makeMap t r=>
  have mk:∀(hv:v= .mp new) (hu:us= [(new,some (.map [] 0))]),∃g',gZ g f w v us new (.map (some w.heap.size)) g' (w.alloc (.map #[] 0)):=by
   rintro rfl rfl;let ⟨r1,r2⟩:=h.alloc hn (o':=.map [] 0) (w':=w.alloc (.map #[] 0)) (l:=0) (e:=0) rfl ⟨#[],heap_alloc_new w _,.nil⟩;exact ⟨_,.mp (o:=0) (Gh.jf _ _ _ _ _),r1,r2,λid cZ=>Gh.lH _ _ _ _ cZ,λxY=>by cases xY⟩
  cases r with
  |none=>
   cases (show some (SV.mp new,[(new,some (SO.map [] 0))])=some (v,us) from fV);let ⟨g',q⟩:=mk rfl rfl;refine ⟨_,_,g',.inl ?_,q⟩;simp[execOp,Instr.makeMap,newObj];rfl
  |some x=>
   let ⟨i,y,hi,hy,ho⟩:=bp (show bT (E.ty.get t) (cE tm x) (λi v=>bT (Bm i.desc) (kX v) λ_ _=>PC new)=some (v,us) from fV)
   let ⟨q,n,hq,Jg,ho⟩:=bp ho;cases ho;let ⟨g',p⟩:=mk rfl rfl;obtain ⟨k,rfl⟩:=uc Jg;have hx:=IY (val hy);have ht:=(hE.ty t i hi).desc;rw[I2 hq] at ht;have ht:E.P.underlying t=some (.map q.1 q.2):=ht;refine ⟨_,_,g',.inl ?_,p⟩;simp[execOp,Instr.makeMap,newObj,run_underlying ht,hx,asInt];rfl
 |makeSlice t l c=>
  let ⟨y1,y2,h1,h2,ho⟩:=bp (show bT (cE tm l) (cE tm c) (λu v=>bT (kX u) (kX v) (Bj E new t))=some (v,us) from fV)
  let ⟨n1,n2,k1,k2,ho⟩:=bp ho;obtain ⟨q1,rfl⟩:=uc k1;obtain ⟨q2,rfl⟩:=uc k2;have e1:=IY (val h1);have e2:=IY (val h2);let ⟨r,w',g',r1,r2⟩:=agc (kl:=q1) (kc:=q2) hE h hn ho;exact ⟨r,w',g',.inl (by simp only[execOp,Sem.run_bind,e1,e2,r1,Result.andThen_ok,Sem.run_pure]),r2⟩
 |slice t x lo hi mx=>
  let ⟨y,hy,ho⟩:=aq (show az (cE tm x) (λv=>rP (j1 tm lo) (j1 tm hi) (j1 tm mx) λl u m=>same (Bb E t v l u m))=some (v,us) from fV)
  let ⟨l,u,m,h1,h2,h3,ho⟩:=pY ho;let ⟨z,hz,ho⟩:=aq ho;cases ho;let ⟨r,r1,r2⟩:=afR (w:=w) hE ed (val hy) h1 h2 h3 hz;exact ⟨r,w,g,.inl (by simp only[execOp,Sem.run_bind,r1,Result.andThen_ok,Sem.run_pure]),gZ.same h r2⟩
 |fieldAddr s x k=>
  let ⟨y,hy,ho⟩:=aq (show az (cE tm x) (ou E s k)=some (v,us) from fV);let ⟨r,r1,r2⟩:=NB (new:=new) hE h (val hy) ho;exact ⟨r,w,g,.inl (by simp only[execOp,Sem.run_bind,r1,Result.andThen_ok,Sem.run_pure]),r2⟩
 |field t x k=>
  let ⟨y,hy,ho⟩:=aq (show az (cE tm x) (xP E t k)=some (v,us) from fV);let ⟨r,r1,r2⟩:=aaX (new:=new) hE h (val hy) ho;exact ⟨r,w,g,.inl (by simp only[execOp,Sem.run_bind,r1,Result.andThen_ok,Sem.run_pure]),r2⟩
 |indexAddr t x ix=>
  let ⟨y1,y2,h1,h2,ho⟩:=bp (show bT (cE tm x) (cE tm ix) (λv u=>az (kX u) λk=>same (oj E t v k))=some (v,us) from fV)
  let ⟨n,Jg,ho⟩:=aq ho;let ⟨z,hz,ho⟩:=aq ho;cases ho;obtain ⟨q,rfl⟩:=uc Jg;have e2:=IY (val h2);let ⟨r,r1,r2⟩:=PY (w:=w) (kk:=q) hE (val h1) hz;exact ⟨r,w,g,.inl (by simp only[execOp,Sem.run_bind,e2,r1,Result.andThen_ok,Sem.run_pure]),gZ.same h r2⟩
 |index t x ix=>
  let ⟨y1,y2,h1,h2,ho⟩:=bp (show bT (cE tm x) (cE tm ix) (λv u=>az (kX u) λk=>vR E t k v)=some (v,us) from fV)
  let ⟨n,Jg,ho⟩:=aq ho;obtain ⟨q,rfl⟩:=uc Jg;have e2:=IY (val h2);let ⟨r,r1,r2⟩:=aaW (new:=new) (kk:=q) hE h (val h1) ho;exact ⟨r,w,g,.inl (by simp only[execOp,Sem.run_bind,e2,r1,Result.andThen_ok,Sem.run_pure]),r2⟩
 |lookup t x k ok=>
  let ⟨y1,y2,h1,h2,ho⟩:=bp (show bT (cE tm x) (cE tm k) (λa b=>same (sD E f t a b ok))=some (v,us) from fV)
  let ⟨z,hz,ho⟩:=aq ho;cases ho;let ⟨r,r1,r2⟩:=abi hE h (val h1) (val h2) hz;exact ⟨r,w,g,.inl (by simp only[execOp,Sem.run_bind,r1,Result.andThen_ok,Sem.run_pure]),gZ.same h r2⟩
 |range t x=>
  let ⟨y,hy,ho⟩:=aq (show az (cE tm x) (vQ E f new t)=some (v,us) from fV);let ⟨r,w',g',r1,r2⟩:=aaU hE h hn (val hy) ho;exact ⟨r,w',g',.inl (by simp only[execOp,Sem.run_bind,r1,Result.andThen_ok,Sem.run_pure]),r2⟩
 |next it tq=>
  let ⟨y,hy,ho⟩:=aq (show az (cE tm it) (yK f tq)=some (v,us) from fV);let ⟨r,w',r1,r2⟩:=agb (new:=new) (ty:=ty) hE h (val hy) ho;exact ⟨r,w',g,.inl (by simp only[execOp,Sem.run_bind,r1,Result.andThen_ok,Sem.run_pure]),r2⟩
 |extract x i=>
  let ⟨y,hy,ho⟩:=aq (show az (cE tm x) (λv=>az (OI v) λvs=>same (vs[i]?))=some (v,us) from fV)
  let ⟨vs,wB,ho⟩:=aq ho;let ⟨z,hz,ho⟩:=aq ho;cases ho;obtain rfl:=ajI wB;have hv:=val hy;generalize hq:a.eval x=q at hv;cases hv with
  |cS hr=>
   let ⟨u,u1,u2⟩:=hr.get hz;refine ⟨u,w,g,.inl ?_,gZ.same h u2⟩;simp only[execOp,hq,Instr.extract];rw[lx] at u1;rw[u1];rfl
 |call c=>
  have ho:rY E tm f new c=some (v,us):=fV;unfold rY at ho;split at ho
  ·rename_i b hb;let ⟨aa,has,ho⟩:=aq ho;let ⟨r,w',g',r1,r2⟩:=Va hE h ed hn (ts:=c.argTypes) has ty (c.args.map fun| .const _=>true|_=>false) ho
   refine ⟨r,w',g',.inl ?_,r2⟩;simp only[execOp,resolve,hb,Sem.run_bind,Sem.run_pure,Result.andThen_ok,invoke];exact r1
  ·cases ho
 |_=>cases fV
end
section
variable {E:Env} {g:Gh} {f f':Hf} {w:World} {T T':Tf}
def ajE (h:∀t,x= .tmp t->T t=T' t):cE T x=cE T' x:=by
 cases x with
 |tmp t=>exact h t rfl
 |_=>rfl
def wg:∀{xs:List Operand},(∀x∈xs,cE T x=cE T' x)->fT T xs=fT T' xs
 | [],_=>rfl
 |x::xs,h=>by
  show bT (cE T x) (fT T xs) _=bT (cE T' x) (fT T' xs) _;rw[h x (by simp),wg λy hy=>h y (by simp[hy])]
def Bh:∀{ps:List (Nat×Operand)},(∀p∈ps,cE T p.2=cE T' p.2)->ku T ps=ku T' ps
 | [],_=>rfl
 |p::ps,h=>by
  show az (cE T p.2) (λv=>bT v.cells (ku T ps) _)=az (cE T' p.2) (λv=>bT v.cells (ku T' ps) _)
  rw[h p (by simp),Bh λq hq=>h q (by simp[hq])]
def Bi {x:Option Operand} (h:∀y,x=some y->cE T y=cE T' y):j1 T x=j1 T' x:=by
 cases x with
 |none=>rfl
 |some y=>
  show az (cE T y) _=az (cE T' y) _;rw[h y rfl]
def NN {v:SV} (h:vd v=some q):q.1∈lR (some v):=by
 rw[oe h];simp[lR]
def agj {v:SV} (h:∀id∈lR (some v),f id=f' id):oX E f t v=oX E f' t v:=by
 unfold oX;cases hp:vd v with
 |none=>rfl
 |some q=>
  show az (E.ty.get t) (λi=>az (je (f q.1) q.2 (wide i)) _)=az (E.ty.get t) (λi=>az (je (f' q.1) q.2 (wide i)) _)
  rw[h _ (NN hp)]
def Y5 {v a:SV} (h:∀id∈lR (some a),f id=f' id):rW E f t v a=rW E f' t v a:=by
 unfold rW;cases hp:vd a with
 |none=>rfl
 |some q=>
  show rP (E.ty.get t) v.cells (nq (f q.1)) _=rP (E.ty.get t) v.cells (nq (f' q.1)) _;rw[h _ (NN hp)]
def aco {x:SV} (h:∀id∈lR (some x),f id=f' id):acp x f=acp x f':=by
 cases x<;>first|rfl|(rename_i id;show az (j2 (f id)) _=az (j2 (f' id)) _;rw[h id (by simp[lR])])
def Xn {x k:SV} {ok:Bool} (h:∀id∈lR (some x),f id=f' id):sD E f t x k ok=sD E f' t x k ok:=by
 unfold sD;rw[aco h]
def OH {x k v:SV} (h:∀id∈lR (some x),f id=f' id):vn E f t x k v=vn E f' t x k v:=by
 unfold vn;cases hp:atO x with
 |none=>rfl
 |some id=>
  have:=Wu hp;subst this;show az (E.ty.get t) (λi=>az (Bm i.desc) λq=>bT (E.ty.get q.1) (j2 (f id)) _)=az (E.ty.get t) (λi=>az (Bm i.desc) λq=>bT (E.ty.get q.1) (j2 (f' id)) _)
  rw[h id (by simp[lR])]
def Xm {x:SV} (h:∀id∈lR (some x),f id=f' id):vQ E f new t x=vQ E f' new t x:=by
 have e:∀D:UD,Pn D x f=Pn D x f':=by
  intro D;cases D<;>first|rfl|skip
  cases x<;>first|rfl|(rename_i id;show az (j2 (f id)) _=az (j2 (f' id)) _;rw[h id (by simp[lR])])
 unfold vQ;simp only[e]
def aaV {x:SV} (h:∀id∈lR (some x),f id=f' id):yK f tq x=yK f' tq x:=by
 unfold yK;cases hp:xq x with
 |none=>rfl
 |some id=>
  let ⟨q,h1,h2⟩:=aq hp;let ⟨_,h2⟩:=aV h2;cases h2;show aQ tq (az (LG (f q.1)) _) none=aQ tq (az (LG (f' q.1)) _) none;rw[h _ (NN h1)]
def HY {id off n:Nat} (h:f id=f' id):mj f id off n=mj f' id off n:=by unfold mj;rw[h]
def afO {size:Nat} {x:SV} (h:∀id∈lR (some x),f id=f' id):u9 f size x=u9 f' size x:=by
 cases x<;>first
  |rfl
  |(
   rename_i id off n c
   have e:rowOf (.sl id off n c) f size=rowOf (.sl id off n c) f' size:=HY (h id (by simp[lR]))
   show A5 f size (.sl id off n c)=A5 f' size (.sl id off n c)
   unfold A5
   rw[e])
def agt {s:SV} {size m:Nat} {xs:aY} (h:∀id∈lR (some s),f id=f' id):vi s f new e size m xs=vi s f' new e size m xs:=by
 cases s<;>first
  |rfl
  |(
   rename_i id off n c
   show L9 f new e size m xs id off n c=L9 f' new e size m xs id off n c
   unfold L9
   rw[h id (by simp[lR]),HY (h id (by simp[lR]))])
def Xq {s x:SV} (h1:∀id∈lR (some s),f id=f' id) (h2:∀id∈lR (some x),f id=f' id):nN E f new t s x=nN E f' new t s x:=by
 unfold nN VE;have e1:∀size,u9 f size x=u9 f' size x:=λsize=>afO h2
 have e2:∀e size m xs,vi s f new e size m xs=vi s f' new e size m xs:=λe size m xs=>agt h1
 simp only[e1,e2]
def akN {D:UD} {x:SV} (h:∀id∈lR (some x),f id=f' id):xS D x f=xS D x f':=by
 cases D<;>first
  |rfl
  |(
   show atW x f=atW x f'
   cases x<;>first|rfl|(rename_i id;show az (j2 (f id)) _=az (j2 (f' id)) _;rw[h id (by simp[lR])]))
def tn (hx:x∈xs) {id:Nat} (h:id∈lR (cE T x)):id∈oY T xs:=by
 induction xs with
 |nil=>simp at hx
 |cons y ys ih=>
  show id∈lR (cE T y)++oY T ys;rw[eR];rcases cH.1 hx with rfl|hx
  ·exact .inl h
  ·exact .inr (ih hx)
def abC:∀{xs:List Operand} {aa:aY},fT T xs=some aa->∀a∈aa,∀id∈lR (some a),id∈oY T xs
 | [],aa,h,a,ha,_,_=>by cases h;simp at ha
 |x::xs,aa,h,a,ha,id,iN=>by
  let ⟨v,l,h1,h2,h3⟩:=bp h;cases h3;show id∈lR (cE T x)++oY T xs;rw[eR];rcases cH.1 ha with rfl|ha
  ·rw[h1];exact .inl iN
  ·exact .inr (abC h2 a ha id iN)
def WA:∀{xs:List Operand} {aa:aY},fT T xs=some aa->∀a∈aa,∀id∈idM (some a),id∈GC T xs
 | [],aa,h,a,ha,id,iN=>by
  have h:some []=some aa:=h;cases h;cases ha
 |x::xs,aa,h,a,ha,id,iN=>by
  let ⟨v,l,h1,h2,h3⟩:=bp (show bT (cE T x) (fT T xs) (λv l=>some (v::l))=some aa from h)
  cases h3;show id∈idM (cE T x)++GC T xs;rcases cH.1 ha with e|ha
  ·rw[h1,<-e];exact gE _ iN
  ·exact iz _ (WA h2 a ha id iN)
def aFm (b:Builtin):Bool:=match b with| .len=>true|_=>false
def agk {D:UD} {x:SV} (h:∀id∈idM (some x),f id=f' id):xS D x f=xS D x f':=by
 cases x<;>first|exact akN h|(cases D<;>rfl)
def apH {op:Op} (hT:∀x∈op.operands.toList,cE T x=cE T' x) (hf:∀id∈pB op T,f id=f' id):qT E op T f new=qT E op T' f' new:=by
 have rZ:∀(x:Operand) (k:SV->gq),x∈op.operands.toList->one T x k=one T' x k:=λx k hx=>by unfold one;rw[hT x hx]
 have Io:∀(x y:Operand) (k:SV->SV->gq),x∈op.operands.toList->y∈op.operands.toList->two T x y k=two T' x y k:=λx y k hx hy=>by unfold two;rw[hT x hx,hT y hy]
 have Vb:∀(x:Operand) (k k':SV->gq),x∈op.operands.toList->(∀v,cE T x=some v->k v=k' v)->one T x k=one T' x k':=λx k k' hx hk=>by
  rw[<-rZ x k' hx];unfold one;cases hv:cE T x with
  |none=>rfl
  |some v=>exact hk v hv
 have ajH:∀(x y:Operand) (k k':SV->SV->gq),x∈op.operands.toList->y∈op.operands.toList->(∀v u,cE T x=some v->cE T y=some u->k v u=k' v u)->two T x y k=two T' x y k':=λx y k k' hx hy hk=>by
  rw[<-Io x y k' hx hy];unfold two;cases hv:cE T x with
  |none=>rfl
  |some v=>
   cases hu:cE T y with
   |none=>rfl
   |some u=>exact hk v u hv hu
 cases op with
 |move x=>exact rZ x _ (by simp[Op.operands])
 |assign x=>exact rZ x _ (by simp[Op.operands])
 |pick c x y=>
  show az (cE T c) (λv=>az (oU v) λb=>one T (aQ b x y) _)=az (cE T' c) (λv=>az (oU v) λb=>one T' (aQ b x y) _)
  rw[hT c (by simp[Op.operands])]
  congr 1;funext v;congr 1;funext b;cases b
  ·exact rZ y _ (by simp[Op.operands])
  ·exact rZ x _ (by simp[Op.operands])
 |alloc e=>rfl
 |box e x=>exact rZ x _ (by simp[Op.operands])
 |build t ps=>
  show az (ku T ps.toList) _=az (ku T' ps.toList) _;rw[Bh λp hp=>hT p.2 (by simp[Op.operands];exact ⟨p.1,by simpa using hp⟩)]
 |buildSlice t n ps=>
  show az (ku T ps.toList) _=az (ku T' ps.toList) _;rw[Bh λp hp=>hT p.2 (by simp[Op.operands];exact ⟨p.1,by simpa using hp⟩)]
 |insert t m k x=>
  refine ajH m k _ _ (by simp[Op.operands]) (by simp[Op.operands]) λv u hv hu=>Vb x _ _ (by simp[Op.operands]) λc hc=> ?_
  rw[OH λid iN=>hf id (tn (xs:= [m,k,x]) (x:=m) (by simp) (by rw[hv];exact iN))]
 |mapUpdate t m k x=>
  refine ajH m k _ _ (by simp[Op.operands]) (by simp[Op.operands]) λv u hv hu=>Vb x _ _ (by simp[Op.operands]) λc hc=> ?_
  rw[OH λid iN=>hf id (tn (xs:= [m,k,x]) (x:=m) (by simp) (by rw[hv];exact iN))]
 |load t x=>
  refine Vb x _ _ (by simp[Op.operands]) λv hv=> ?_
  rw[agj λid iN=>hf id (tn (xs:= [x]) (x:=x) (by simp) (by rw[hv];exact iN))]
 |store t x y=>
  refine ajH x y _ _ (by simp[Op.operands]) (by simp[Op.operands]) λv u hv hu=> ?_
  rw[Y5 λid iN=>hf id (tn (xs:= [x,y]) (x:=x) (by simp) (by rw[hv];exact iN))]
 |nilCheck x=>exact rZ x _ (by simp[Op.operands])
 |binOp op t x y yt=>exact Io x y _ (by simp[Op.operands]) (by simp[Op.operands])
 |unOp op t x=>exact rZ x _ (by simp[Op.operands])
 |convert s d x=>exact rZ x _ (by simp[Op.operands])
 |makeFunc fn a c=>
  show aQ (Vc fn) (bT (fT T a.toList) (fT T c.toList) _) none=aQ (Vc fn) (bT (fT T' a.toList) (fT T' c.toList) _) none;rw[wg λx hx=>hT x (by simp[Op.operands];exact .inl (by simpa using hx)),wg λx hx=>hT x (by simp[Op.operands];exact .inr (by simpa using hx))]
 |makeMap t r=>
  cases r with
  |none=>rfl
  |some x=>
   show bT (E.ty.get t) (cE T x) _=bT (E.ty.get t) (cE T' x) _;rw[hT x (by simp[Op.operands])]
 |makeSlice t l c=>exact Io l c _ (by simp[Op.operands]) (by simp[Op.operands])
 |slice t x lo hi mx=>
  refine Vb x _ _ (by simp[Op.operands]) λv hv=> ?_
  rw[Bi (x:=lo) λy hy=>hT y (by subst hy;simp[Op.operands]),Bi (x:=hi) λy hy=>hT y (by subst hy;simp[Op.operands]),Bi (x:=mx) λy hy=>hT y (by subst hy;simp[Op.operands])]
 |fieldAddr s x k=>exact rZ x _ (by simp[Op.operands])
 |field t x k=>exact rZ x _ (by simp[Op.operands])
 |indexAddr t x ix=>exact Io x ix _ (by simp[Op.operands]) (by simp[Op.operands])
 |index t x ix=>exact Io x ix _ (by simp[Op.operands]) (by simp[Op.operands])
 |lookup t x k ok=>
  refine ajH x k _ _ (by simp[Op.operands]) (by simp[Op.operands]) λv u hv hu=> ?_
  rw[Xn λid iN=>hf id (tn (xs:= [x,k]) (x:=x) (by simp) (by rw[hv];exact iN))]
 |range t x=>
  refine Vb x _ _ (by simp[Op.operands]) λv hv=> ?_
  exact Xm λid iN=>hf id (tn (xs:= [x]) (x:=x) (by simp) (by rw[hv];exact iN))
 |next it tq=>
  refine Vb it _ _ (by simp[Op.operands]) λv hv=> ?_
  exact aaV λid iN=>hf id (tn (xs:= [it]) (x:=it) (by simp) (by rw[hv];exact iN))
 |extract x i=>exact rZ x _ (by simp[Op.operands])
 |call c=>
  show rY E T f new c=rY E T' f' new c;unfold rY;split
  ·rename_i b hb;have ev:fT T c.args.toList=fT T' c.args.toList:=wg λx hx=>hT x (by simp[Op.operands,Call.operands,hb];simpa using hx)
   rw[<-ev];cases hv:fT T c.args.toList with
   |none=>rfl
   |some aa=>
    have hid0:uL c=false->∀a∈aa,∀id∈lR (some a),f id=f' id:=λhl a ha id h=>hf id (by
     show id∈aQ (uL c) (GC T c.args.toList) (oY T c.args.toList);rw[hl];exact abC hv a ha id h)
    have hidM:uL c=true->∀a∈aa,∀id∈idM (some a),f id=f' id:=λhl a ha id h=>hf id (by
     show id∈aQ (uL c) (GC T c.args.toList) (oY T c.args.toList);rw[hl];exact WA hv a ha id h)
    have lenC:uL c=aFm b:=by unfold uL;rw[hb];cases b<;>rfl
    show rm E f new b aa _=rm E f' new b aa _;have e1:uL c=false->∀t p,uA aa=some p->nN E f new t p.1 p.2=nN E f' new t p.1 p.2:=λhl t p h1=>by
     have iN:=hid0 hl;have hp:=yZ h1;exact Xq (iN p.1 (by rw[hp];simp)) (iN p.2 (by rw[hp];simp))
    have e3:uL c=true->∀D x,aa.head? =some x->xS D x f=xS D x f':=λhl D x h1=>agk (hidM hl x (List.mem_of_head? h1))
    unfold rm;cases b<;>(first|(have e1:=e1 lenC)|(have e3:=e3 lenC))<;>first
     |rfl
     |(
      simp only
      generalize hq:uA aa=q at e1
      cases q with
      |none=>rfl
      |some p=>simp only[bT,e1 _ p rfl])
     |(
      simp only
      generalize hq:aa.head? =q at e3
      cases q with
      |none=>rfl
      |some p=>simp only[bT,e3 _ p rfl])
  ·rfl
 |_=>rfl
end
section
variable {E:Env} {g:Gh} {f:Hf} {w:World}
variable {d nx':Nat} {K':Ending->World->Prop}
def ow (ro:bP):Fence:={fn:=λ_=>True,depth:=none,alive:=false,round:=ro}
def jk (T:Tf) (d:bP) (v:SV):Tf:=λt=>if d=some t then some v else T t
def th (tm:de) (d:bP) (v:SV):(iY tm d v).get=jk tm.get d v:=by
 cases d with
 |none=>funext t;simp[iY,jk]
 |some d=>
  funext t;show (tm.set d (some v)).get t=_;rw[Tr.pD];simp only[jk,KB];by_cases h:t=d
  ·subst h;simp
  ·rw[aL h,aL (λe=>h e.symm)]
def avs (h:kY nt (some d)=true):d<nt:=(bV _ _).1 h
def FR.put {T:Tf} (h:FR g nt T a.tmps) {d:bP} (hd:kY nt d=true) {v:SV} (hv:VR g r v):FR g nt (jk T d v) (a.put d r).tmps:=by
 cases d with
 |none=>
  refine ⟨h.sz,λt x hx=>h.tm t x ?_⟩
  simpa[jk] using hx
 |some d=>
  have cY:=avs hd;refine ⟨by simpa[Act.put] using h.sz,λt x hx=> ?_⟩
  simp only[jk,KB] at hx;show VR g ((a.tmps.setIfInBounds d r).getD t undef) x;simp only[mh,YV];split at hx
  ·rename_i e;subst e;obtain rfl:v=x:=by simpa using hx
   have:d<a.tmps.size:=by rw[h.sz];exact cY
   simpa[this] using hv
  ·rename_i e;rw[aL e];have:=h.tm t x hx;simpa[mh] using this
def put_defers (a:Act) (d:bP) (r:Value):(a.put d r).defers=a.defers:=by cases d<;>rfl
def Cz:∀(l:dd) (j:Nat),IX l j=(l[j]?).bind (·.dst)
 | [],j=>by simp;rfl
 |o::l,0=>rfl
 |o::l,j+1=>by
  show IX l j=_;rw[Cz l j];simp
def yj {T:Tf} (h:FR g nt T a.tmps) {all:dF} (hw:gw all.toList o T=some b):Region.wanted o (yielded all a.tmps)=b:=by
 unfold gw at hw;unfold Region.wanted;cases hg:o.guard with
 |none=>rw[hg] at hw;cases hw;rfl
 |some p=>
  let ⟨j,want⟩:=p;rw[hg] at hw;have hw:vF all.toList T j want=some b:=hw;unfold vF at hw;rw[Cz,lx] at hw;simp only[yielded];cases hd:(all[j]?).bind (·.dst) with
  |none=>
   rw[hd] at hw;cases hw;simp
  |some t=>
   rw[hd] at hw;let ⟨x,hx,hw⟩:=aq (show az (T t) (ajD want)=some b from hw);have hv:=h.tm t x hx;simp only[au];rw[mh] at hv;cases ht:a.tmps[t]? with
   |none=>
    rw[ht] at hv;simp only[Kw] at hv;have hu:(undef:Value)= .tuple #[]:=rfl;rw[hu] at hv;cases hv with
    |cS _=>cases hw;rfl
    |undef _=>cases hw
   |some u=>
    rw[ht] at hv;simp only[xr] at hv;cases hv<;>first
     |(cases hw;rfl)
     |(rename_i c;cases hw;cases c<;>cases want<;>rfl)
     |cases hw
def kO (D:Nat->Bool) (H f:Hf):Hf:=λx=>if D x=true then H x else f x
def vj (E:Env) (ro:bP) (nt:Nat) (all:dF) (i:Nat) (o:Oper) (T:Tf) (need:Nat->Prop) (H:Hf) (frp newp:Nat->Prop) (v:SV) (D:Nat->Bool) (H':Hf):Prop:=
 ∀(m:Nat) (g:Gh) (f:Hf) (T1:Tf) (a:Act) (w:World) (K:Act->World->Prop) (Q:Exit->Act->World->Prop),dW E g->FR g nt T1 a.tmps->HR g f w->(∀t∈o.looksAt all,T1 t=T t)->(∀x,need x->f x=H x)->(∀x,frp x->g.Z x=none)->
  (∀r w' g',FR g' nt (jk T1 o.dst v) (a.put o.dst r).tmps->HR g' (kO D H' f) w'->Fr g f w g' (kO D H' f) w'->(∀x,¬newp x->g'.Z x=g.Z x)->K (a.put o.dst r) w')->
  wpOpIn (ow ro) m E.P all Q i K a w
def HO {all:dF} {T T1:Tf} (h:∀t∈o.looksAt all,T1 t=T t):∀x∈o.op.operands.toList,cE T1 x=cE T x:=λx hx=>ajE λt ht=>h t (by
 subst ht;exact gE _ (List.mem_filterMap.2 ⟨.tmp t,hx,rfl⟩))
def zh {all:dF} {T T1:Tf} (h:∀t∈o.looksAt all,T1 t=T t):gw all.toList o T1=gw all.toList o T:=by
 unfold gw;cases hg:o.guard with
 |none=>rfl
 |some p=>
  show vF all.toList T1 p.1 p.2=vF all.toList T p.1 p.2;unfold vF;rw[Cz,lx];cases hd:(all[p.1]?).bind (·.dst) with
  |none=>rfl
  |some t=>
   show az (T1 t) _=az (T t) _;rw[h t (by simp[Oper.looksAt,hg,hd])]
def AZ:∀(us:dQ) (H f:Hf) (x:Nat),gz f us x=if x∈us.map (·.1) then gz H us x else f x
 | [],H,f,x=>by simp[gz]
 |u::us,H,f,x=>by
  show gz (jo f u) us x=if x∈(u::us).map (·.1) then gz (jo H u) us x else f x
  rw[AZ us (jo H u) (jo f u) x];by_cases h1:x∈us.map (·.1)
  ·rw[aH h1,aH (by simp at h1 ⊢;exact .inr h1)]
  ·rw[aL h1];by_cases h2:x=u.1
   ·rw[aH (by simp[h2])]
    rw[AZ us (jo f u) (jo H u) x,aL h1];simp[jo,h2]
   ·rw[aL (by simp at h1 ⊢;exact ⟨h2,h1⟩)]
    simp[jo,h2]
def As {ro:bP} (P:Program) (w:World):∀k,o.about P w a.eval=some k->(ow ro).fn k:=λ_ _=>trivial
def Dn {ro:bP} {all:dF} {T:Tf} {H:Hf} {v:SV} {us:dQ} (hi:all[i]? =some o) (hw:gw all.toList o T=some true) (hd:kY nt o.dst=true) (ho:qT E o.op T H new=some (v,us)) (hH:H new=none) (hD:∀x,D x=true↔(x∈us.map (·.1)\/x=new)) (xg:∀c,o.op≠ .defer c):
  vj E ro nt all i o T (λx=>x∈pB o.op T) H (λx=>x=new) (λx=>x=new/\us≠ []) v D (gz H us):=by
 intro m g f T1 a w K Q hE ed hr hT LL l9 hk;have e1:qT E o.op T1 f new=some (v,us):=by
  rw[<-ho];refine (apH (λx hx=>(HO hT x hx).symm) (λid iN=>(LL id iN).symm)).symm
 have hn:=l9 new rfl;let ⟨r,w',g',ln,hp⟩:=atK hE hr ed hn e1;have Bz:gz f us=kO D (gz H us) f:=by
  funext x;unfold kO;rw[AZ us H f x];by_cases h1:x∈us.map (·.1)
  ·rw[aH h1,aH ((hD x).2 (.inl h1))]
  ·rw[aL h1];by_cases h2:x=new
   ·rw[aH ((hD x).2 (.inr h2)),AZ us f H x,aL h1,h2,hH,hr.Er hn]
   ·rw[aL (λh=>by rcases (hD x).1 h with h|h;exact h1 h;exact h2 h)]
 have hkk:=hk r w' g' ((ed.mono hp.fr.le).put hd hp.val) (Bz ▸ hp.hr) (Bz ▸ hp.fr) (λx hx=>by
  by_cases hu:us= []
  ·rw[hp.nil hu]
  ·exact hp.ro x (λhe=>hx ⟨he,hu⟩))
 unfold wpOpIn;rw[hi];simp only;rw[aH (yj ed (by rw[zh hT];exact hw))]
 refine ⟨As E.P w,?_⟩;rw[Oper.semAt_eq _ _ _ xg];rcases ln with h1|⟨h1,rfl⟩
 ·rw[h1];exact hkk
 ·rw[h1];exact hkk
def step_skip {ro:bP} {all:dF} {T:Tf} {H:Hf} (hi:all[i]? =some o) (hw:gw all.toList o T=some false) (hd:kY nt o.dst=true) (hH:H new=none) (hD:∀x,D x=true↔x=new):
  vj E ro nt all i o T (λ_=>False) H (λx=>x=new) (λ_=>False) (.cS []) D H:=by
 intro m g f T1 a w K Q hE ed hr hT LL l9 hk;have hn:=l9 new rfl;have Bz:f=kO D H f:=by
  funext x;unfold kO;by_cases h2:x=new
  ·rw[aH ((hD x).2 h2),h2,hH,hr.Er hn]
  ·rw[aL (λh=>h2 ((hD x).1 h))]
 have hkk:=hk undef w g (ed.put hd (.cS .nil)) (Bz ▸ hr) (Bz ▸ Fr.refl g f w) (λ_ _=>rfl)
 unfold wpOpIn;rw[hi];simp only;have hwn:=yj ed (by rw[zh hT];exact hw)
 rw[aL (by rw[hwn];simp)]
 exact ⟨As E.P w,hkk⟩
def MF (P : Program) (m : Nat) (u : Value) (us : ig) (w : World) (K : Ending -> World -> Prop) : Prop :=
  ∃ d, (Deferred.ofValue u us).run P w = .ok d w /\
    ((∃ k aa, (invoke d.target d.args).run P w = .ok (.enter k aa) w /\ CallsIn Fence.wide m P k aa w K) \/
     (∃ l k tmps aa bo, (invoke d.target d.args).run P w = .ok (.round l k tmps aa bo) w /\ RoundIn Fence.wide m P l k tmps aa bo w K) \/
     (∃ r w', (invoke d.target d.args).run P w = .ok (.value r) w' /\ K (.returned r) w'))
def MF.mono {m:Nat} {us:ig} {w:World} (h:MF P m u us w K) (hk:∀e w',K e w'->K' e w'):MF P m u us w K':=by
 let ⟨d,h1,h2⟩:=h;refine ⟨d,h1,?_⟩;rcases h2 with ⟨k,aa,q1,q2⟩|⟨l,k,t,aa,bo,q1,q2⟩|⟨r,w',q1,q2⟩
 ·exact .inl ⟨k,aa,q1,CallsIn.mono q2 hk⟩
 ·exact .inr (.inl ⟨l,k,t,aa,bo,q1,RoundIn.mono q2 hk⟩)
 ·exact .inr (.inr ⟨r,w',q1,hk _ _ q2⟩)
def Qi (fR:Bool) (u:Value):Ending:=if fR=true then .panicked [{v:=u,recovered:=false}] else .returned u
def QE (g:Gh) (H:Hf) (w:World) (nx:Nat) (r:Rs) (e:Ending) (w':World):Prop:=
 ∃u g',e=Qi r.fR u/\VR g' u r.v/\HR g' r.h.hp.get w'/\Fr g H w g' r.h.hp.get w'/\(∀x,x<nx->g'.Z x=g.Z x)/\∀x,r.h.nx<=x->g'.Z x=none
def yh (E:Env) (fv:SV) (aa:aY) (H:Hf) (nx:Nat) (l:List Rs):Prop:=
 ∀(m:Nat) (g:Gh) (w:World) (u:Value) (us:fu),dW E g->HR g H w->(∀x,nx<=x->g.Z x=none)->VR g u fv->j8 g us aa->
  MF E.P m u us.toArray w λe w'=>∃r∈l,QE g H w nx r e w'
def oC (E:Env) (fR:Bool) (fv:SV) (aa:aY) (H:Hf) (nx:Nat) (v:SV) (H':Hf) (nx':Nat):Prop:=
 ∀(m:Nat) (g:Gh) (w:World) (u:Value) (us:fu),dW E g->HR g H w->(∀x,nx<=x->g.Z x=none)->VR g u fv->j8 g us aa->
  MF E.P m u us.toArray w λe w'=>∃r,e=Qi fR r/\∃g',VR g' r v/\HR g' H' w'/\Fr g H w g' H' w'/\(∀x,x<nx->g'.Z x=g.Z x)/\∀x,nx'<=x->g'.Z x=none
def yh.one {fv:SV} {aa:aY} {H:Hf} {r:Rs} (h:yh E fv aa H nx [r]):oC E r.fR fv aa H nx r.v r.h.hp.get r.h.nx:=
 λm g w u us hE hr eV hu jL=>(h m g w u us hE hr eV hu jL).mono λe w' ⟨r',hm,u',g',q1,q2,q3,q4,q5,q6⟩=>by
  obtain rfl:=ez.1 hm;exact ⟨u',q1,g',q2,q3,q4,q5,q6⟩
def alr {H H':Hf} {g':Gh} (hr:HR g f w) (Dy:∀x o,H x=some o->f x=some o) (Jn:∀x,nx<=x->g.Z x=none) (jB:HR g' H' w') (hf:Fr g H w g' H' w') (iv:∀x,x<nx->g'.Z x=g.Z x) (hD:∀x,D x=false->x<nx->H' x=H x) (hD2:∀x,D x=false->nx<=x->H' x=none):HR g' (kO D H' f) w'/\Fr g f w g' (kO D H' f) w':=by
 have sX:∀x,nx<=x->f x=none:=λx hx=>hr.Er (Jn x hx)
 have other:∀x o,D x=false->f x=some o->H x=none->∃b c,g.Z x=some (b,c)/\b<w.heap.size/\OR g w x b c o/\¬amG g H b:=by
  intro x o hd hx hn;let ⟨b,c,q1,q2,q3⟩:=hr.ob x o hx;refine ⟨b,c,q1,q2,q3,λ⟨id,o',c',h1,h2⟩=> ?_⟩
  have:=hr.inj id x o' o b c' c (Dy id o' h1) hx h2 q1;subst this;rw[hn] at h1;simp at h1
 have Lz:∀x o,f x=some o->x<nx:=λx o hx=>by
  by_cases h:nx<=x
  ·rw[sX x h] at hx;simp at hx
  ·omega
 have cls:∀x o,kO D H' f x=some o->H' x=some o\/(D x=false/\f x=some o/\H x=none):=by
  intro x o hx;unfold kO at hx;split at hx
  ·exact .inl hx
  ·rename_i hd;have hd:D x=false:=by simpa using hd
   cases hh:H x with
   |none=>exact .inr ⟨hd,hx,rfl⟩
   |some o'=>
    have:=Dy x o' hh;rw[hx] at this;cases this;exact .inl ((hD x hd (Lz x o hx)).trans hh)
 refine ⟨⟨λx o hx=> ?_,λi j x y b c d hx hy e1 e2=> ?_⟩,⟨hf.os,hf.tape,hf.output,hf.size,hf.le,λb hb hn=>hf.old b hb (λ⟨id,o,c,h1,h2⟩=>hn ⟨id,o,c,Dy id o h1,h2⟩),λb hb hm=> ?_⟩⟩
 ·rcases cls x o hx with h1|⟨h1,h2,h3⟩
  ·exact jB.ob x o h1
  ·let ⟨b,c,q1,q2,q3,q4⟩:=other x o h1 h2 h3;exact ⟨b,c,(iv x (Lz x o h2)).trans q1,mC q2 hf.size,q3.mono hf.le q1 (hf.old b q2 q4)⟩
 ·have ayS:∀p q z z' b c d,H' p=some z->D q=false->f q=some z'->H q=none->g'.Z p=some (b,c)->g'.Z q=some (b,d)->False:=by
   intro p q z z' b c d h1 h2 h3 h4 e1 e2;let ⟨b',c',q1,q2,q3,q4⟩:=other q z' h2 h3 h4;rw[iv q (Lz q z' h3),q1] at e2;cases e2;exact q4 (hf.own _ q2 ⟨p,z,c,h1,e1⟩)
  rcases cls i x hx with h1|⟨h1,h2,h3⟩<;>rcases cls j y hy with k1|⟨k1,k2,k3⟩
  ·exact jB.inj i j x y b c d h1 k1 e1 e2
  ·exact (ayS i j x y b c d h1 k1 k2 k3 e1 e2).elim
  ·exact (ayS j i y x b d c k1 h1 h2 h3 e2 e1).elim
  ·rw[iv i (Lz i x h2)] at e1;rw[iv j (Lz j y k2)] at e2;exact hr.inj i j x y b c d h2 k2 e1 e2
 ·let ⟨x,o,c,hx,e⟩:=hm;rcases cls x o hx with h1|⟨h1,h2,h3⟩
  ·let ⟨id,o',c',q1,q2⟩:=hf.own b hb ⟨x,o,c,h1,e⟩;exact ⟨id,o',c',Dy id o' q1,q2⟩
  ·rw[iv x (Lz x o h2)] at e;exact ⟨x,o,c,h2,e⟩
def ahV {ro:bP} {all:dF} {T T1:Tf} {H:Hf} {fv:SV} {aa:aY} {nx m:Nat} {K:Act->World->Prop} (hi:all[i]? =some o) (hw:gw all.toList o T=some true) (eT:o.op= .call c) (hc:sG T c.callee=some fv) (has:fT T c.args.toList=some aa) (ed:FR g nt T1 a.tmps) (hT:∀t∈o.looksAt all,T1 t=T t) (hs:∀(u:Value) (us:fu),VR g u fv->j8 g us aa->MF E.P (m-1) u us.toArray w KE) (hk:∀e w',KE e w'->∃fR r,e=Qi fR r/\(fR=false->K (a.put o.dst r) w')/\(fR=true->Q (.panic [{v:=r,recovered:=false}]) a w')):
  wpOpIn (ow ro) m E.P all Q i K a w:=by
 obtain ⟨x,hx⟩:∃x,c.callee= .value x:=by
  cases BE:c.callee with
  |value x=>exact ⟨x,rfl⟩
  |_=>rw[BE] at hc;cases hc
 have auB:=HO hT;rw[eT] at auB;have hfv:cE T1 x=some fv:=by
  rw[auB x (by simp[Op.operands,Call.operands,hx])]
  rw[hx] at hc;exact hc
 have hva:fT T1 c.args.toList=some aa:=by
  rw[<-has];exact wg λy hy=>auB y (by simp[Op.operands,Call.operands,hx];exact .inr (by simpa using hy))
 have hu:=ot ed hfv;have jL:=yG ed hva;let ⟨d,xl,HV⟩:=hs (a.eval x) (c.args.toList.map a.eval) hu jL;have fE:(resolve a.eval c o.type).run E.P w= .ok d w:=by
  simp only[resolve,hx];have:c.args.map a.eval=(c.args.toList.map a.eval).toArray:=Oa (by simp)
  rw[this];exact xl
 have fin:∀e w',KE e w'->(match e,w' with
   | .returned v,Ij=>K (a.put o.dst v) Ij
   | .panicked chain,Ij=>Q (.panic chain) a Ij
   | .outgrown,_=>LetsOut Q):=by
  intro e w' he;obtain ⟨fR,r,rfl,h1,h2⟩:=hk e w' he;cases fR with
  |false=>exact h1 rfl
  |true=>exact h2 rfl
 unfold wpOpIn;rw[hi];simp only;rw[aH (yj ed (by rw[zh hT];exact hw))]
 refine ⟨As E.P w,?_⟩;rw[Oper.semAt_eq _ _ _ (λc' h=>by rw[eT] at h;cases h)]
 have hex:(execOp a.eval o).run E.P w=(invoke d.target d.args).run E.P w:=by
  simp only[execOp,eT,Sem.run_bind,fE,Result.andThen_ok]
 rw[hex];rcases HV with ⟨k,JS,h1,h2⟩|⟨l,k,tmps,JS,bo,h1,h2⟩|⟨r,w',h1,h2⟩
 ·rw[h1];refine ⟨λh=>by simp[ow] at h,?_⟩
  refine CallsIn.mono (F:=ow ro) (show CallsIn (ow ro) (m-1) E.P k JS w _ from h2) ?_;intro e w' he;have:=fin e w' he;cases e<;>exact this
 ·rw[h1];refine ⟨λh=>by simp[ow] at h,?_⟩
  refine RoundIn.mono (F:=ow ro) (show RoundIn (ow ro) (m-1) E.P l k tmps JS bo w _ from h2) ?_;intro e w' he;have:=fin e w' he;cases e<;>exact this
 ·rw[h1];exact fin _ w' h2
def Wh {ro:bP} {all:dF} {T:Tf} {H H':Hf} {fv v:SV} {aa:aY} (hi:all[i]? =some o) (hw:gw all.toList o T=some true) (hd:kY nt o.dst=true) (eT:o.op= .call c) (hc:sG T c.callee=some fv) (has:fT T c.args.toList=some aa) (hs:oC E false fv aa H nx v H' nx') (hD:∀x,D x=false->x<nx->H' x=H x) (hD2:∀x,D x=false->nx<=x->H' x=none):
  vj E ro nt all i o T (λx=>H x≠none) H (λx=>nx<=x) (λx=>nx<=x/\x<nx') v D H':=by
 intro m g f T1 a w K Q hE ed hr hT LL l9 hk;have Dy:∀x y,H x=some y->f x=some y:=λx y hx=>by rw[LL x (by show H x≠none;rw[hx];simp),hx]
 have HT:HR g H w:=hr.sub Dy;refine ahV (g:=g) (H:=H) (nx:=nx) hi hw eT hc has ed hT (λu us hu jL=>hs (m-1) g w u us hE HT (λy hy=>l9 y hy) hu jL) ?_
 rintro e w' ⟨r,rfl,g',h1,h2,h3,h4,h5⟩;refine ⟨false,r,rfl,λ_=> ?_,λh=>by cases h⟩
 let ⟨q1,q2⟩:=alr hr Dy (λy hy=>l9 y hy) h2 h3 h4 hD hD2
 exact hk r w' g' ((ed.mono h3.le).put hd h1) q1 q2 (λx hx=>by
  by_cases hl:x<nx
  ·exact h4 x hl
  ·rw[h5 x (by omega),l9 x (by show nx<=x;omega)])
end
section
variable {E:Env} {g:Gh} {f:Hf} {w:World}
variable {frp:Nat->Nat->Prop}
structure DS where
 T:Tf
 F:Hf
structure H5 where
 dst:bP
 v:SV
 D:Nat->Bool
 H:Hf
def DS.app (s:DS) (u:H5):DS:=⟨jk s.T u.dst u.v,kO u.D u.H s.F⟩
def eX (us:Nat->H5) (l:br) (p:Nat->Bool) (s:DS):DS:=(l.filter p).foldl (λs j=>s.app (us j)) s
def F5 (us:Nat->H5) (t:Nat) (p q:Nat->Bool):∀(l:br) (s s2:DS),s.T t=s2.T t->(∀j∈l,(us j).dst=some t->p j=q j)->(eX us l p s).T t=(eX us l q s2).T t
 | [],s,s2,h,_=>h
 |j::l,s,s2,h,hpq=>by
  have rI:=λs s2 hs=>F5 us t p q l s s2 hs (λi hi=>hpq i (fO _ hi))
  have DC:∀s:DS,(s.app (us j)).T t=if (us j).dst=some t then some (us j).v else s.T t:=λs=>rfl
  unfold eX at rI ⊢;by_cases hl:(us j).dst=some t
  ·have:=hpq j (by simp) hl
   cases hp:p j
   ·rw[hp] at this;simp only[mD,hp,<-this];exact rI s s2 h
   ·rw[hp] at this;simp only[mD,hp,<-this,aB,D2];exact rI _ _ (by rw[DC,DC,aH hl,aH hl])
  ·have key:∀s:DS,(s.app (us j)).T t=s.T t:=λs=>by rw[DC,aL hl]
   cases hp:p j<;>cases hq:q j<;>simp only[mD,hp,hq,aB,D2,aC,aA]
   ·exact rI _ _ h
   ·exact rI _ _ (by rw[key];exact h)
   ·exact rI _ _ (by rw[key];exact h)
   ·exact rI _ _ (by rw[key,key];exact h)
def F7 (us:Nat->H5) (x:Nat) (p q:Nat->Bool):∀(l:br) (s s2:DS),s.F x=s2.F x->(∀j∈l,(us j).D x=true->p j=q j)->(eX us l p s).F x=(eX us l q s2).F x
 | [],s,s2,h,_=>h
 |j::l,s,s2,h,hpq=>by
  have rI:=λs s2 hs=>F7 us x p q l s s2 hs (λi hi=>hpq i (fO _ hi))
  have DC:∀s:DS,(s.app (us j)).F x=if (us j).D x=true then (us j).H x else s.F x:=λs=>rfl
  unfold eX at rI ⊢;by_cases hl:(us j).D x=true
  ·have:=hpq j (by simp) hl
   cases hp:p j
   ·rw[hp] at this;simp only[mD,hp,<-this];exact rI s s2 h
   ·rw[hp] at this;simp only[mD,hp,<-this,aB,D2];exact rI _ _ (by rw[DC,DC,aH hl,aH hl])
  ·have key:∀s:DS,(s.app (us j)).F x=s.F x:=λs=>by rw[DC,aL hl]
   cases hp:p j<;>cases hq:q j<;>simp only[mD,hp,hq,aB,D2,aC,aA]
   ·exact rI _ _ h
   ·exact rI _ _ (by rw[key];exact h)
   ·exact rI _ _ (by rw[key];exact h)
   ·exact rI _ _ (by rw[key,key];exact h)
def DS.ext' {s t:DS} (h1:∀u,s.T u=t.T u) (h2:∀k,s.F k=t.F k):s=t:=by
 cases s;cases t;simp only[DS.mk.injEq];exact ⟨funext h1,funext h2⟩
def Cv (i n:Nat) (h:i<=n):(List.range' 0 n).filter (λj=>decide (j<i))=List.range' 0 i:=by
 obtain ⟨m,rfl⟩:=Nat.exists_eq_add_of_le h;rw[<-List.range'_append_1,KC];have h1:(List.range' 0 i).filter (λj=>decide (j<i))=List.range' 0 i:=vE.2 λx hx=>by simp[oB] at hx;simpa using hx
 have h2:(List.range' (0+i) m).filter (λj=>decide (j<i))= []:=so.2 λx hx=>by simp[oB] at hx;simp;omega
 rw[h1,h2];simp
def Y9 (us:Nat->H5) (p:Nat->Bool) (i n:Nat) (h:i<n) (hp:p i=true) (s:DS):eX us (List.range' 0 n) (λj=>p j&&decide (j<=i)) s=(eX us (List.range' 0 i) p s).app (us i):=by
 obtain ⟨m,rfl⟩:=Nat.exists_eq_add_of_lt h;have e:List.range' 0 (i+m+1)=List.range' 0 i++(i::List.range' (i+1) m):=by
  rw[show i+m+1=i+(m+1) from by omega,<-List.range'_append_1]
  simp[yC]
 unfold eX;rw[e,KC,mD];have h1:(List.range' 0 i).filter (λj=>p j&&decide (j<=i))=(List.range' 0 i).filter p:=xA λx hx=>by simp[oB] at hx;simp;omega
 have h2:(List.range' (i+1) m).filter (λj=>p j&&decide (j<=i))= []:=so.2 λx hx=>by simp[oB] at hx;simp;omega
 rw[h1,h2];simp[hp]
def abZ (l:Array Bool) (i j:Nat) (h:i<l.size) (d:Bool):(l.setIfInBounds i true).getD j d=if j=i then true else l.getD j d:=by
 simp only[mh,YV];by_cases hj:j=i
 ·subst hj;simp[h]
 ·simp[hj,DQ hj]
def direct (ops:dF) (j:Nat):br:=((ops[j]?).map mc).getD []
def mq (ops:dF):Nat->Nat->br
 |0,_=> []
 |n+1,j=>direct ops j++(direct ops j).flatMap (mq ops n)
def uh {ops:dF} {S:Nat->Prop} (hS:∀j,S j->∀i∈direct ops j,S i):∀(n j:Nat),S j->∀i∈mq ops n j,S i
 |0,_,_,i,hi=>by simp[mq] at hi
 |n+1,j,hj,i,hi=>by
  simp only[mq,eR,tT] at hi;rcases hi with hi|⟨k,hk,hi⟩
  ·exact hS j hj i hi
  ·exact uh hS n k (hS j hj k hk) i hi
def G8 {ops:dF} (hS:∀j,S j->∀i∈direct ops j,S i):∀(n j:Nat),(∀i∈direct ops j,S i)->∀i∈mq ops n j,S i
 |0,_,_,i,hi=>by simp[mq] at hi
 |n+1,j,hj,i,hi=>by
  simp only[mq,eR,tT] at hi;rcases hi with hi|⟨k,hk,hi⟩
  ·exact hj i hi
  ·exact uh hS n k (hj k hk) i hi
def tY {ops:dF}:i∈Region.ready .any ops bw↔i<ops.size/\bw.getD i true=false/\∀j∈direct ops i,bw.getD j false=true:=by
 unfold Region.ready;simp only[lr,S1,bF,Bool.not_eq_true'];constructor
 ·rintro ⟨h1,h2,h3⟩;refine ⟨h1,h2,λj hj=> ?_⟩
  unfold direct at hj;rw[nU h1] at hj h3;simp only[Ib,xr,mc,cO,lr] at hj h3;obtain ⟨e,⟨he1,he2⟩,rfl⟩:=hj;rw[Array.all_eq_true'] at h3;have:=h3 e (by simpa using he1)
  simpa[he2] using this
 ·rintro ⟨h1,h2,h3⟩;refine ⟨h1,h2,?_⟩;rw[nU h1];simp only[Ib,xr];rw[Array.all_eq_true'];intro e he;by_cases hb:Region.binds .any e=true
  ·have:=h3 e.on (by
    unfold direct;rw[nU h1];simp only[Ib,xr,mc,cO,lr];exact ⟨e,⟨by simpa using he,hb⟩,rfl⟩)
   simp[this]
  ·simp[hb]
def HR.EM (h:HR g f w) (he:w'.heap=w.heap):HR g f w':=
 ⟨λid o ho=>by
  let ⟨b,c,q1,q2,q3⟩:=h.ob id o ho;exact ⟨b,c,q1,by rw[he];exact q2,q3.mono (.refl _) q1 (by rw[he])⟩,h.inj⟩
def Fr.EM (he:w'.heap=w.heap) (h1:w'.os=w.os) (h2:w'.tape=w.tape) (h3:w'.output=w.output):Fr g f w g f w':=
 ⟨h1,h2,h3,by rw[he];exact dg _,.refl _,λb _ _=>by rw[he],λ_ _ h=>h⟩
structure Ind (ops:dF) (us:Nat->H5) (need:Nat->Nat->Prop) (i j:Nat):Prop where
 s1:∀t,(us i).dst=some t->∀o,ops[j]? =some o->t∉o.looksAt ops
 s2:∀t,(us j).dst=some t->∀o,ops[i]? =some o->t∉o.looksAt ops
 s3:∀t,(us i).dst=some t->(us j).dst≠some t
 d:∀x,(us i).D x=true->(us j).D x=false
 n1:∀x,need j x->(us i).D x=false
 n2:∀x,need i x->(us j).D x=false
def alL {ro:bP} {ops:dF} {U:Nat->H5} {newp:Nat->Nat->Prop} {s0:DS} (Bz:E.P.follows .mixedOrders=true) (GG:∀i (hi:i<ops.size),¬S i->(U i).dst=ops[i].dst/\vj E ro nt ops i ops[i] (eX U (List.range' 0 i) (λ_=>true) s0).T (need i) (eX U (List.range' 0 i) (λ_=>true) s0).F (frp i) (newp i) (U i).v (U i).D (U i).H) (hd:∀j,j<ops.size->(∀i∈direct ops j,i<j)/\∀i,i<j->i∈mq ops ops.size j\/Ind ops U need i j) (hfp:∀i k,i<ops.size->k<ops.size->i≠k->∀x,frp i x->newp k x->i∈mq ops ops.size k) {id m:Nat} (hE:dW E g) (ed:FR g nt s0.T a.tmps) (hr:HR g s0.F w) (l9:∀i,i<ops.size->∀x,frp i x->g.Z x=none) (aJY:∀i,i<ops.size->S i->i+1=ops.size/\(∀j,j<i->j∈mq ops ops.size i)/\∀(g1:Gh) (a1:Act) (w1:World) (K:Act->World->Prop),dW E g1->FR g1 nt (eX U (List.range' 0 i) (λ_=>true) s0).T a1.tmps->HR g1 (eX U (List.range' 0 i) (λ_=>true) s0).F w1->
   Fr g s0.F w g1 (eX U (List.range' 0 i) (λ_=>true) s0).F w1->a1.defers=a.defers->(∀x,g1.Z x≠g.Z x->∃k,k<i/\newp k x)->wpOpIn (ow ro) m E.P ops Q i K a1 w1) (hq:(∀i,i<ops.size->¬S i)->∀g' a' w',FR g' nt (eX U (List.range' 0 ops.size) (λ_=>true) s0).T a'.tmps->HR g' (eX U (List.range' 0 ops.size) (λ_=>true) s0).F w'->Fr g s0.F w g' (eX U (List.range' 0 ops.size) (λ_=>true) s0).F w'->a'.defers=a.defers->
   (∀x,(∀i,i<ops.size->¬newp i x)->g'.Z x=g.Z x)->Q .normal a' w'):(Code.region id ops true).wpIn (ow ro) m E.P Q a w:=by
 let n:=ops.size;have key:∀(fuel:Nat) (bw:Array Bool) (a1:Act) (w1:World) (g1:Gh),bw.size=n->(∀j,bw.getD j false=true->∀i∈direct ops j,bw.getD i false=true)->
   ((List.range' 0 n).filter (λj=> !bw.getD j false)).length=fuel->dW E g1->FR g1 nt (eX U (List.range' 0 n) (λj=>bw.getD j false) s0).T a1.tmps->HR g1 (eX U (List.range' 0 n) (λj=>bw.getD j false) s0).F w1->
   Fr g s0.F w g1 (eX U (List.range' 0 n) (λj=>bw.getD j false) s0).F w1->a1.defers=a.defers->(∀x,g1.Z x≠g.Z x->∃k,k<n/\bw.getD k false=true/\newp k x)->(∀j,bw.getD j false=true->¬S j)->wpAnyIn (ow ro) m E.P .any ops Q fuel bw a1 w1:=by
  intro fuel;induction fuel with
  |zero=>
   intro bw a1 w1 g1 mH eI BD hE1 BC xf CK hdf Dz uk;have gV:∀j,j<n->bw.getD j false=true:=by
    intro j hj;have:=so.1 (sn BD) j (by simp[oB];exact hj)
    simpa using this
   have mT:eX U (List.range' 0 n) (λj=>bw.getD j false) s0=eX U (List.range' 0 n) (λ_=>true) s0:=by
    unfold eX;congr 1;exact xA λx hx=>by simp[oB] at hx;simpa using gV x hx
   rw[mT] at BC xf CK;refine ⟨?_,hq (λi hi=>uk i (gV i hi)) g1 a1 w1 BC xf CK hdf (λx hx=> ?_)⟩
   ·rw[S2];intro i hi;let ⟨h1,h2,_⟩:=tY.1 hi;have:=gV i h1;simp only[mh] at this h2;rw[nU (by rw[mH];exact h1)] at this h2
    simp at this h2;rw[this] at h2;simp at h2
   ·by_cases he:g1.Z x=g.Z x
    ·exact he
    ·let ⟨k,k1,_,k3⟩:=Dz x he;exact absurd k3 (hx k k1)
  |succ fuel ih=>
   intro bw a1 w1 g1 mH eI BD hE1 BC xf CK hdf Dz uk;have hun:∀j,j<n->bw.getD j true=bw.getD j false:=by
    intro j hj;simp only[mh];rw[nU (by rw[mH];exact hj)];rfl
   refine ⟨λhr=> ?_,λi hi=> ?_⟩
   ·exfalso;have cZ:(List.range' 0 n).filter (λj=> !bw.getD j false)≠ []:=by intro he;rw[he] at BD;simp at BD
    let ⟨i0,hi0⟩:=mL _ cZ;have hex:∃i,i<n/\bw.getD i false=false:=⟨i0,by simp[oB] at hi0;exact hi0.1,by simp at hi0;simpa using hi0.2⟩
    have:∀m,(∃i,i<=m/\i<n/\bw.getD i false=false)->∃i,i<n/\bw.getD i false=false/\∀j,j<i->bw.getD j false=true:=by
     intro m;induction m with
     |zero=>rintro ⟨i,h1,h2,h3⟩;exact ⟨i,h2,h3,λj hj=>by omega⟩
     |succ m ihm=>
      rintro ⟨i,h1,h2,h3⟩;by_cases hj:∃j,j<i/\bw.getD j false=false
      ·let ⟨j,hj1,hj2⟩:=hj;exact ihm ⟨j,by omega,by omega,hj2⟩
      ·exact ⟨i,h2,h3,λj Jj=>by
        cases hq:bw.getD j false with
        |true=>rfl
        |false=>exact absurd ⟨j,Jj,hq⟩ hj⟩
    let ⟨i,sV,uQ⟩:=hex;let ⟨k,k1,k2,k3⟩:=this i ⟨i,dg _,sV,uQ⟩;have:k∈Region.ready .any ops bw:=tY.2 ⟨k1,by rw[hun k k1];exact k2,λj hj=>k3 j ((hd k k1).1 j hj)⟩
    rw[hr] at this;simp at this
   ·let ⟨sV,uQ,hi3⟩:=tY.1 hi;rw[hun i sV] at uQ;by_cases hSi:S i
    ·let ⟨CI,gV,qt⟩:=aJY i sV hSi;have hli:∀j,j<i->bw.getD j false=true:=λj hj=>G8 (S:=λj=>bw.getD j false=true) eI n i hi3 j (gV j hj)
     have mT:eX U (List.range' 0 n) (λj=>bw.getD j false) s0=eX U (List.range' 0 i) (λ_=>true) s0:=by
      unfold eX;have:(List.range' 0 n).filter (λj=>bw.getD j false)=(List.range' 0 i).filter (λ_=>true):=by
       rw[vE.2 (λ_ _=>rfl),<-Cv i n (Nat.le_of_lt sV)]
       refine xA λx hx=> ?_
       have hxn:x<n:=by simp[oB] at hx;exact hx
       by_cases hxi:x<i
       ·simp only[hli x hxi,hxi,aU]
       ·have:x=i:=by omega
        subst this;simp only[uQ,Nat.lt_irrefl,aX]
      rw[this]
     rw[mT] at BC xf CK;refine qt g1 a1 w1 _ hE1 BC xf CK hdf (λx hx=> ?_)
     let ⟨k,k1,k2,k3⟩:=Dz x hx;refine ⟨k,?_,k3⟩;by_cases hk:k=i
     ·subst hk;rw[uQ] at k2;simp at k2
     ·omega
    let ⟨auK,hs⟩:=GG i sV hSi;have hoi:ops[i]? =some ops[i]:=nU sV;have Jo:∀j,j<i->bw.getD j false=false->Ind ops U need j i:=by
     intro j hj hl;rcases (hd i sV).2 j hj with hc|hc
     ·have:=G8 (S:=λj=>bw.getD j false=true) eI n i hi3 j hc
      rw[hl] at this;simp at this
     ·exact hc
    have Al:∀j,i<j->j<n->bw.getD j false=true->Ind ops U need i j:=by
     intro j hj hjn hl;rcases (hd j hjn).2 i hj with hc|hc
     ·have:=uh (S:=λj=>bw.getD j false=true) eI n j hl i hc
      rw[uQ] at this;simp at this
     ·exact hc
    have abP:eX U (List.range' 0 i) (λ_=>true) s0=eX U (List.range' 0 n) (λj=>decide (j<i)) s0:=by
     unfold eX;rw[Cv i n (Nat.le_of_lt sV)];congr 1;exact vE.2 (λ_ _=>rfl)
    have hT:∀t∈(ops[i]).looksAt ops,(eX U (List.range' 0 n) (λj=>bw.getD j false) s0).T t=(eX U (List.range' 0 i) (λ_=>true) s0).T t:=by
     intro t htr;rw[abP];refine F5 U t _ _ _ _ _ rfl (λj hj mP=> ?_)
     have hjn:j<n:=by simp[oB] at hj;exact hj
     rcases Nat.lt_trichotomy j i with cY|heq|hgt
     ·cases hl:bw.getD j false with
      |true=>simp[cY]
      |false=>exact absurd htr ((Jo j cY hl).s1 t mP _ hoi)
     ·subst heq;simp[uQ]
     ·cases hl:bw.getD j false with
      |false=>simp;omega
      |true=>exact absurd htr ((Al j hgt hjn hl).s2 t mP _ hoi)
    have hB:∀x,need i x->(eX U (List.range' 0 n) (λj=>bw.getD j false) s0).F x=(eX U (List.range' 0 i) (λ_=>true) s0).F x:=by
     intro x hx;rw[abP];refine F7 U x _ _ _ _ _ rfl (λj hj mP=> ?_)
     have hjn:j<n:=by simp[oB] at hj;exact hj
     rcases Nat.lt_trichotomy j i with cY|heq|hgt
     ·cases hl:bw.getD j false with
      |true=>simp[cY]
      |false=>
       have:=(Jo j cY hl).n1 x hx;rw[mP] at this;simp at this
     ·subst heq;simp[uQ]
     ·cases hl:bw.getD j false with
      |false=>simp;omega
      |true=>
       have:=(Al j hgt hjn hl).n2 x hx;rw[mP] at this;simp at this
    have iR:∀j,(bw.setIfInBounds i true).getD j false=if j=i then true else bw.getD j false:=λj=>abZ bw i j (by rw[mH];exact sV) false
    have hpi:(bw.setIfInBounds i true).getD i false=true:=by rw[iR];simp
    have P0:(eX U (List.range' 0 n) (λj=>bw.getD j false) s0).app (U i)=eX U (List.range' 0 n) (λj=>(bw.setIfInBounds i true).getD j false) s0:=by
     refine DS.ext' (λt=> ?_) (λx=> ?_)
     ·show (if (U i).dst=some t then some (U i).v else _)=_
      by_cases hl:(U i).dst=some t
      ·have e:=F5 U t (λj=>(bw.setIfInBounds i true).getD j false) (λj=>(bw.setIfInBounds i true).getD j false&&decide (j<=i)) (List.range' 0 n) s0 s0 rfl (λj hj mP=>by
        have hjn:j<n:=by simp[oB] at hj;exact hj
        by_cases hle:j<=i
        ·simp[hle]
        ·cases vW:(bw.setIfInBounds i true).getD j false with
         |false=>simp
         |true=>
          rw[iR,aL (by omega)] at vW
          exact absurd mP ((Al j (by omega) hjn vW).s3 t hl))
       rw[e,Y9 U _ i n sV hpi,aH hl];show _=if (U i).dst=some t then some (U i).v else _
       rw[aH hl]
      ·rw[aL hl];refine F5 U t _ _ _ _ _ rfl (λj hj mP=> ?_)
       rw[iR];split
       ·rename_i he;subst he;exact absurd mP hl
       ·rfl
     ·show (if (U i).D x=true then (U i).H x else _)=_
      by_cases hl:(U i).D x=true
      ·have e:=F7 U x (λj=>(bw.setIfInBounds i true).getD j false) (λj=>(bw.setIfInBounds i true).getD j false&&decide (j<=i)) (List.range' 0 n) s0 s0 rfl (λj hj mP=>by
        have hjn:j<n:=by simp[oB] at hj;exact hj
        by_cases hle:j<=i
        ·simp[hle]
        ·cases vW:(bw.setIfInBounds i true).getD j false with
         |false=>simp
         |true=>
          rw[iR,aL (by omega)] at vW
          have:=(Al j (by omega) hjn vW).d x hl
          rw[mP] at this;simp at this)
       rw[e,Y9 U _ i n sV hpi,aH hl];show _=if (U i).D x=true then (U i).H x else _
       rw[aH hl]
      ·rw[aL hl];refine F7 U x _ _ _ _ _ rfl (λj hj mP=> ?_)
       rw[iR];split
       ·rename_i he;subst he;exact absurd mP hl
       ·rfl
    have auN:∀j,(bw.setIfInBounds i true).getD j false=true->∀k∈direct ops j,(bw.setIfInBounds i true).getD k false=true:=by
     intro j hj k hk;rw[iR] at hj ⊢;split
     ·rfl
     ·split at hj
      ·rename_i he;subst he;exact hi3 k hk
      ·exact eI j hj k hk
    have alo:((List.range' 0 n).filter (λj=> !(bw.setIfInBounds i true).getD j false)).length=fuel:=by
     have h1:(List.range' 0 n).filter (λj=> !(bw.setIfInBounds i true).getD j false)=((List.range' 0 n).filter (λj=> !bw.getD j false)).erase i:=by
      have xg:((List.range' 0 n).filter (λj=> !bw.getD j false)).Nodup:=List.Pairwise.filter _ List.nodup_range'
      rw[xg.erase_eq_filter,List.filter_filter];refine xA λx hx=> ?_
      rw[iR];by_cases hxi:x=i<;>simp[hxi]
     rw[h1,agz (lr.2 ⟨by simp[oB];exact sV,by rw[uQ];rfl⟩),BD]
     rfl
    have Jn:∀x,frp i x->g1.Z x=none:=by
     intro x hx;by_cases he:g1.Z x=g.Z x
     ·rw[he];exact l9 i sV x hx
     ·let ⟨k,k1,k2,k3⟩:=Dz x he;have cZ:i≠k:=λe=>by subst e;rw[uQ] at k2;simp at k2
      have:=uh (S:=λj=>bw.getD j false=true) eI n k k2 i (hfp i k sV k1 cZ x hx k3)
      rw[uQ] at this;simp at this
    refine hs m g1 _ _ a1 w1 (wpAnyIn (ow ro) m E.P .any ops Q fuel (bw.setIfInBounds i true)) Q hE1 BC xf hT hB Jn (λr w' g' q1 q2 q3 q4=> ?_)
    rw[<-auK] at q1 ⊢;have e1:jk (eX U (List.range' 0 n) (λj=>bw.getD j false) s0).T (U i).dst (U i).v=(eX U (List.range' 0 n) (λj=>(bw.setIfInBounds i true).getD j false) s0).T:=by rw[<-P0];rfl
    have e2:kO (U i).D (U i).H (eX U (List.range' 0 n) (λj=>bw.getD j false) s0).F=(eX U (List.range' 0 n) (λj=>(bw.setIfInBounds i true).getD j false) s0).F:=by rw[<-P0];rfl
    rw[e1] at q1;rw[e2] at q2 q3;refine ih (bw.setIfInBounds i true) _ w' g' (by simpa using mH) auN alo (hE1.mono q3.le) q1 q2 (CK.trans q3) (by rw[put_defers];exact hdf) (λx hx=> ?_) ?_
    ·by_cases hn:newp i x
     ·exact ⟨i,sV,hpi,hn⟩
     rw[q4 x hn] at hx;let ⟨k,k1,k2,k3⟩:=Dz x hx;refine ⟨k,k1,?_,k3⟩;rw[iR];split
     ·rfl
     ·exact k2
    ·intro j hj;rw[iR] at hj;split at hj
     ·rename_i e;subst e;exact hSi
     ·exact uk j hj
 refine wpIn_region_any (F:=ow ro) Bz (key ops.size _ a _ g (by simp[n]) ?_ ?_ hE ?_ ?_ ?_ rfl (λx hx=>absurd rfl hx) ?_)
 ·intro j hj;simp[mh,xz] at hj;split at hj<;>simp at hj
 ·have:(List.range' 0 n).filter (λj=> !(Array.replicate ops.size false).getD j false)=List.range' 0 n:=vE.2 λx hx=>by
   simp[mh,xz];split<;>simp
  rw[this];simp[n]
 rotate_left 3
 ·intro j hj;simp[mh,xz] at hj;split at hj<;>simp at hj
 all_goals
  have hs0:eX U (List.range' 0 n) (λj=>(Array.replicate ops.size false).getD j false) s0=s0:=by
   unfold eX;have:(List.range' 0 n).filter (λj=>(Array.replicate ops.size false).getD j false)= []:=so.2 λx hx=>by
    simp[mh,xz];split<;>simp
   rw[this];rfl
  rw[hs0]
 ·exact ed
 ·exact hr.EM rfl
 ·exact Fr.EM rfl rfl rfl rfl
end
end Go.bX
end
