/- Part. -/
import Derived.WalkKit
import Derived.RangeFuncLeaves
import Derived.OrdersIn
import Derived.WalkLawsBesides
import Derived.Great.BuildSlice
import Derived.Deep.AppendSrc
import Derived.Laws.CopyRow
import Derived.Laws.AppendOwn
import Derived.Great.FillDense
import Derived.Laws.MakeOwn
set_option linter.all false
noncomputable section
namespace Go.bQ
def ux:=@Option.some.inj
def s8:=@of_decide_eq_true
def pg:=@List.append_nil
def OE:=@List.cons.inj
def ax:=@if_pos
def aA:=@if_neg
def bA:=@congrArg
def vI:=@Nat.le_of_eq
def iL:=@Nat.le_trans
def Lj:=@of_decide_eq_false
def zm:=@List.map_take
def ES:=@List.map_drop
def BJ:=@List.pairwise_cons
def bB:=@List.mem_cons
def mM:=@List.length_cons
def anT:=@List.range_succ_eq_map
def tH:=@List.filter_cons
def tG:=@decide_eq_true
def EJ:=@List.map_map
def OG:=@decide_eq_false
def fM:=@List.map_cons
def oK:=@Array.getElem?_eq_some_iff
def IN:=@Array.getElem?_modify
def zl:=@Ne.symm
def cg:=@List.getElem?_eq_some_iff
def pW:=@Array.getElem?_eq_getElem
def IM:=@Option.map_some
def dW:=@List.getElem?_eq_getElem
def cF:=@Nat.le_refl
def dS:=@List.mem_map
def OF:=@Nat.eq_zero_or_pos
def nu:=@Nat.add_zero
def YH:=@Array.getElem?_setIfInBounds
def oJ:=@Nat.sub_self
def sg:=@List.getElem?_cons_succ
def dV:=@List.all_eq_true
def gJ:=@List.length_drop
def vg:=@Nat.sub_mul
def EI:=@List.length_eq_zero_iff
def fD:=@List.getElem?_drop
def tF:=@List.mem_of_mem_drop
def fV:=@Nat.add_assoc
def eR:=@List.getElem?_take
def mL:=@Array.getElem?_toList
def OD:=@List.getElem_of_mem
def xc:=@List.getElem_mem
def xb:=@List.map_nil
def IL:=@Array.getElem?_append_left
def IK:=@List.getElem?_toArray
def OC:=@Nat.min_def
def dx:=@List.length_take
def oI:=@List.getElem?_append
def eg:=@Nat.min_eq_left
def cE:=@Nat.zero_add
def YG:=@Array.getElem?_eq_none
def nr:=@List.nil_append
def kn:=@Nat.ble_eq_true_of_le
def eK:=@Nat.add_mul
def gz:=@Nat.mul_le_mul_right
def oH:=@List.mem_of_mem_take
def sf:=@List.drop_take
def nq:=@List.take_take
def ee:=@List.mem_append
def kP:=@Option.map_eq_some_iff
def nV:=@Nat.zero_mul
def eQ:=@List.length_append
def vf:=@List.take_length
def YF:=@List.append_eq_nil_iff
def cB:=@List.mem_singleton
def EH:=@List.flatten_append
def IJ:=@Nat.le_zero
def gw:=@List.mem_cons_self
def fU:=@Nat.le_of_ble_eq_true
def dR:=@List.mem_cons_of_mem
def OB:=@List.take_left
def pU:=@Nat.zero_le
def kO:=@Nat.one_mul
def se:=@List.drop_eq_getElem_cons
def nn:=@List.flatten_cons
def II:=@List.set_eq_take_append_cons_drop
def kN:=@List.append_assoc
def cX:=@List.mem_of_getElem?
def YE:=@List.take_append_of_le_length
def zk:=@List.drop_drop
def anS:=@List.drop_append_of_le_length
def YD:=@List.take_append
def lF:=@List.take_of_length_le
def aY:=@Bool.and_eq_true
def hZ:=@List.length_set
def tE:=@List.mem_or_eq_of_mem_set
def tD:=@List.nodup_cons
def EG:=@List.getElem?_set
def qW:=@List.getElem?_append_right
def OA:=@Nat.sub_zero
def xa:=@Nat.le_add_right
def EF:=@List.take_zero
def iP:=@Bool.true_and
def pT:=@List.map_append
def w6:=@List.map_set
def oG:=@Bool.or_eq_true
def LA:=@List.any_eq_true
def mA:=@Nat.lt_of_lt_of_le
def Lz:=@List.cons_append
def qZ:=@Bool.and_eq_true_iff
def eJ:=@List.mem_append_left
def ez:=@List.mem_append_right
def yq:=@Classical.byContradiction
def EU:=@Nat.lt_succ_self
def kK:=@List.getElem?_map
def iz:=@List.length_map
def Ly:=@List.cons.injEq
def wE:=@beq_iff_eq
def wD:=@List.take_append_drop
def yp:=@List.nodup_append
def wC:=@List.ext_getElem?
def ET:=@Prod.ext
def Sw:=@Bool.not_eq_true'
def pJ:=@List.drop_zero
def uw:=@List.getElem?_set_self
def pI:=@List.set_set
def uv:=@List.set_append_right
def wB:=@List.take_add_one
def Bv:=@List.map_congr_left
def Bu:=@List.length_replicate
def Sv:=@List.mapM_cons
def qY:=@List.drop_of_length_le
def yo:=@List.range'_succ
def aq:=@Option.bind_some
def aF:=@if_true
def yn:=@List.getElem?_append_left
def ym:=@List.getElem?_eq_none
def lI:=@decide_eq_true_eq
def Su:=@List.range_eq_range'
def ur:=@List.eq_nil_of_length_eq_zero
def ER:=@List.isEmpty_iff
def EP:=@Nat.add_comm
def Ss:=@List.drop_left'
def agJ:=@List.take_length_add_append
def yl:=@List.take_left'
def EO:=@List.drop_append
def agI:=@List.drop_eq_nil_of_le
def EN:=@Nat.add_sub_cancel_left
def Sq:=@List.replicate_succ
def agH:=@List.set_eq_of_length_le
def Lx:=@Bool.false_or
def yk:=@UInt8.lt_irrefl
def Lw:=@UInt8.not_lt
def bg:=@decide_false
def aK:=@Bool.false_eq_true
def aG:=@if_false
def aW:=@decide_true
def kJ:=@Bool.not_false
def fA:=@Bool.not_true
def gj:=@Bool.false_and
def lH:=@Bool.eq_false_or_eq_true
def sJ:=@bne_self_eq_false
def uq:=@List.all_cons
def sI:=@Bool.and_self
def Bt:=@Bool.and_false
def Lv:=@List.take_succ
def Lu:=@Option.toList_some
def Sp:=@ByteArray.size_append
def gX:=@beq_self_eq_true
def lG:=@Bool.eq_iff_iff
def EM:=@List.length_nil
def Lt:=@decide_eq_decide
def Ls:=@Int.toNat_natCast
def Br:=@beq_false_of_ne
def wA:=@List.getElem?_cons_zero
def agG:=@List.getLast?_eq_getElem?
def EL:=@List.sum_cons
def Bq:=@Array.ext'
def qX:=@Array.getD_eq_getD_getElem?
def Lr:=@Option.getD_none
def yj:=@Option.getD_some
def Lq:=@List.foldl_cons
def Lp:=@List.filter_eq_self
def oF:=@List.mem_range'_1
def Lo:=@List.filter_eq_nil_iff
def Ln:=@List.filter_congr
def Lm:=@List.mem_flatMap
def pH:=@List.mem_filter
def mQ:=@List.exists_mem_of_ne_nil
def Ll:=@Array.getElem?_replicate
def Sn:=@Nat.testBit_or
def agF:=@Nat.testBit_mod_two_pow
def Lk:=@List.getD_eq_getElem?_getD
def Bp:=@List.ne_nil_of_mem
def EK:=@Int.ofNat_eq_natCast
def Sm:=@Option.map_none
inductive SI where
 |lit (n:Int)
 deriving Inhabited
def SI.ev (η:Nat->Int):SI->Int
 | .lit n=>n
def gu:IntKind->IntKind->Bool
 | .i8,.i8| .i16,.i16| .i32,.i32| .i64,.i64| .u8,.u8| .u16,.u16| .u32,.u32| .u64,.u64=>true
 |_,_=>false
def Ha:Int->Int->Bool
 | .ofNat a,.ofNat b=>Nat.beq a b
 | .negSucc a,.negSucc b=>Nat.beq a b
 |_,_=>false
def xr:Int->Int->Bool
 | .ofNat a,.ofNat b=>Nat.ble (a+1) b
 | .negSucc _,.ofNat _=>true
 | .ofNat _,.negSucc _=>false
 | .negSucc a,.negSucc b=>Nat.ble (b+1) a
def SI.eqb:SI->SI->Bool
 | .lit a,.lit b=>Ha a b
inductive Cp where
 |k (n:Nat)
 |u (e:TypeId)
 deriving Inhabited
inductive SV where
 |bool (b:Bool)
 |int (k:IntKind) (e:SI)
 |str (s:ByteArray)
 |ptr (id off:Nat)
 |il
 |sl (id off n:Nat) (cap:Cp)
 |sle
 |cR
 |mp (id:Nat)
 |gL
 |fn (f:Fn) (first jk:List SV)
 |iS
 |agg (cs:List SV)
 |cm (vs:List SV)
 |undef
 deriving Inhabited
inductive Tr (Y:Type) where
 |nil
 |node (l:Tr Y) (v:Option Y) (r:Tr Y)
 deriving Inhabited
@[reducible] def ay {Y:Type} (b:Bool) (x y:Y):Y:= @Bool.rec (λ_=>Y) y x b
def Tr.get {Y:Type} (t:Tr Y):Nat->Option Y:=
 @Tr.rec Y (λ_=>Nat->Option Y) (λ_=>none) (λ_ v _ gl gr i=> @Bool.rec (λ_=>Option Y) (@Bool.rec (λ_=>Option Y) (gr (Nat.sub (Nat.div i 2) 1)) (gl (Nat.div i 2)) (Nat.beq (Nat.mod i 2) 1)) v (Nat.beq i 0)) t
def Tr.Ja {Y:Type} (n:Nat):Tr Y->Nat->Option Y->Tr Y:=
 @Nat.rec (λ_=>Tr Y->Nat->Option Y->Tr Y) (λt _ _=>t) (λ_ ih t i x=>
  @Tr.rec Y (λ_=>Tr Y)
   (@Bool.rec (λ_=>Tr Y) (@Bool.rec (λ_=>Tr Y) (.node .nil none (ih .nil (Nat.sub (Nat.div i 2) 1) x)) (.node (ih .nil (Nat.div i 2) x) none .nil) (Nat.beq (Nat.mod i 2) 1)) (.node .nil x .nil) (Nat.beq i 0))
   (λl v r _ _=> @Bool.rec (λ_=>Tr Y) (@Bool.rec (λ_=>Tr Y) (.node l v (ih r (Nat.sub (Nat.div i 2) 1) x)) (.node (ih l (Nat.div i 2) x) v r) (Nat.beq (Nat.mod i 2) 1)) (.node l x r) (Nat.beq i 0)) t) n
def Tr.set {Y:Type} (t:Tr Y) (i:Nat) (x:Option Y):Tr Y:=Tr.Ja (Nat.succ i) t i x
inductive SO where
 |cells (e:TypeId) (cs:List SV)
 |map (es:List (SV×SV×Nat)) (clock:Nat)
 |pL (s:ByteArray) (pos:Nat)
 |mapIter (map:Option Nat) (since:Nat) (seen:List Nat) (aKN:Nat)
 |dfr
 |ro (cs:List SV)
 deriving Inhabited
structure FL where
 type:TypeId
 off:Nat
 named:Bool
inductive UD where
 |bool|int (k:IntKind)|string|pointer|slice (e:TypeId)|array (n:Nat) (e:TypeId)|map (k e:TypeId)|struct (fs:List FL)|func|interface|other
 deriving Inhabited
structure TI where
 desc:UD
 size:Nat
 bytes:Nat
 zero:List SV
 comparable:Bool
 deriving Inhabited
structure Env where
 P:Program
 ty:Tr TI
 fn:Tr Func
 lt:List (SI×SI×Bool)
 eq:List (SI×SI×Bool)
 done:List (Nat×SV):= []
 join:List Nat:= []
 rK:List (Nat×Nat):= []
 Eo:List Nat:= []
 stop:List Nat:= []
def Dq (E:Env):SI->SI->Option Bool
 | .lit a,.lit b=>some (xr a b)
def eqI (E:Env):SI->SI->Option Bool
 | .lit x,.lit y=>some (Ha x y)
def nK {Y:Type} (P:Program):Sem Y->Option Y
 | .pure a=>some a
 | .program k=>nK P (k P)
 |_=>none
mutual
def uF:Value->SV
 | .bool b=>.bool b
 | .int k n=>.int k (.lit n)
 | .string s=>.str s
 | .pointer none=>.il
 | .slice none 0 0=>.cR
 | .map none=>.gL
 | .nilFunc=>.iS
 | .agg ⟨cs⟩=>ay (cs.all Value.oneCell') (.agg (oZ cs)) .undef
 | .tuple ⟨cs⟩=>.cm (oZ cs)
 |_=>.undef
def oZ:List Value->List SV
 | []=> []
 |v::vs=>uF v::oZ vs
end
abbrev Hp:=Tr SO
abbrev Hf:=Nat->Option SO
abbrev Up:=Nat×Option SO
structure Hs where
 hp:Hp
 nx:Nat
 lg:List Nat
 deriving Inhabited
abbrev Tf:=Nat->Option SV
abbrev jh:=List (SV×SV×Nat)
abbrev gf:=Option (SV×List Up)
abbrev aM:=List SV
abbrev aI:=List Nat
abbrev cQ:=List Up
abbrev bS:=List Oper
abbrev fk:=Array Oper
abbrev dJ:=Option SV
abbrev da:=Option Nat
abbrev eH:=List Value
abbrev hY:=Array Value
abbrev cq:=Tr SV
def bU (tm:Tf):Operand->dJ
 | .tmp t=>tm t
 | .const v=>some (uF v)
 | .global _=>none
 | .func f=>some (.fn (.func f) [] [])
def SV.cells (x:SV):Option aM:=match x with
 | .bool b=>some [.bool b]
 | .int k e=>some [.int k e]
 | .str s=>some [.str s]
 | .ptr i o=>some [.ptr i o]
 | .il=>some [.il]
 | .sl a b c d=>some [.sl a b c d]
 | .sle=>some [.sle]
 | .cR=>some [.cR]
 | .mp i=>some [.mp i]
 | .gL=>some [.gL]
 | .fn f a c=>some [.fn f a c]
 | .iS=>some [.iS]
 | .agg cs=>some cs
 |_=>none
def kW (d:UD):Bool:=match d with
 | .array _ _=>true
 | .struct _=>true
 |_=>false
def UA:SI->da
 | .lit (.ofNat n)=>some n
 |_=>none
def asE (x:SV):Option (Nat×Nat×Nat×Cp):=match x with
 | .sl i o n c=>some (i,o,n,c)
 |_=>none
def lq (x:SV):da:=match x with
 | .int _ e=>UA e
 |_=>none
def pa (x:SV):Option Bool:=match x with
 | .bool b=>some b
 |_=>none
def intOf (x:SV):Option (IntKind×SI):=match x with
 | .int k e=>some (k,e)
 |_=>none
def strOf (x:SV):Option ByteArray:=match x with
 | .str s=>some s
 |_=>none
def vL (x:SV):Option (Nat×Nat):=match x with
 | .ptr i o=>some (i,o)
 |_=>none
def HW (x:SV):Option aM:=match x with
 | .agg cs=>some cs
 |_=>none
def OJ (x:SV):Option aM:=match x with
 | .cm cs=>some cs
 |_=>none
def ati (x:SV):da:=match x with
 | .mp i=>some i
 |_=>none
def yJ (x:SV):da:=match x with
 | .sl _ _ n _=>some n
 | .sle=>some 0
 | .cR=>some 0
 |_=>none
def UF (x:SV):Bool:=match x with
 | .sl _ _ _ _=>true
 | .sle=>true
 | .cR=>true
 |_=>false
def Pq (x:SV):dJ:=match x with
 | .ptr i o=>some (.ptr i o)
 | .fn f a c=>some (.fn f a c)
 |_=>none
def ia (i:TI) (cs:aM) (off:Nat):dJ:=
 ay (kW i.desc) (ay (Nat.ble (Nat.add off i.size) cs.length) (some (.agg ((cs.drop off).take i.size))) none) (cs[off]?)
def dU (cs:aM) (off:Nat) (xs:aM):aM:=cs.take off++xs++cs.drop (Nat.add off xs.length)
def au {Y γ:Type} (x:Option Y) (f:Y->Option γ):Option γ:= @Option.rec Y (λ_=>Option γ) none f x
def bE {Y O γ:Type} (x:Option Y) (y:Option O) (f:Y->O->Option γ):Option γ:= @Option.rec Y (λ_=>Option γ) none (λa=> @Option.rec O (λ_=>Option γ) none (f a) y) x
def uI {Y O δ γ:Type} (x:Option Y) (y:Option O) (z:Option δ) (f:Y->O->δ->Option γ):Option γ:=au x λa=>bE y z λb c=>f a b c
def andThen (r:Option Bool) (k:Option Bool):Option Bool:=
 match r with
 |some true=>k
 |r=>r
def HD (E:Env) (eq:TypeId->SV->SV->Option Bool) (xs ys:aM):List FL->Option Bool
 | []=>some true
 |f::fs=>ay f.named (au (E.ty.get f.type) λi=>bE (ia i xs f.off) (ia i ys f.off) λx y=>andThen (eq f.type x y) (HD E eq xs ys fs)) none
def arb (x y:SV):Option Bool:=bE (pa x) (pa y) λa b=>some (a==b)
def aJe (E:Env) (x y:SV):Option Bool:=bE (intOf x) (intOf y) λa b=>ay (gu a.1 b.1) (eqI E a.2 b.2) none
def sC:List UInt8->List UInt8->Bool
 | [],[]=>true
 |a::l,b::m=>Nat.beq a.toNat b.toNat&&sC l m
 |_,_=>false
def Ee (a b:ByteArray):Bool:=sC a.data.toList b.data.toList
def eqStr (x y:SV):Option Bool:=bE (strOf x) (strOf y) λa b=>some (Ee a b)
def XJ:SV->SV->Option Bool
 | .il,.il=>some true
 | .il,.ptr _ _=>some false
 | .ptr _ _,.il=>some false
 |_,_=>none
def N8:SV->SV->Option Bool
 | .cR,.cR=>some true
 | .cR,.sl _ _ _ _=>some false
 | .sl _ _ _ _,.cR=>some false
 |_,_=>none
def XK:SV->SV->Option Bool
 | .gL,.gL=>some true
 | .gL,.mp _=>some false
 | .mp _,.gL=>some false
 |_,_=>none
def amb:SV->SV->Option Bool
 | .iS,.iS=>some true
 | .iS,.fn _ _ _=>some false
 | .fn _ _ _,.iS=>some false
 |_,_=>none
def arG (x y:SV):Option (aM×aM):=bE (HW x) (HW y) λxs ys=>some (xs,ys)
def auN (E:Env) (eq:TypeId->SV->SV->Option Bool) (t:TypeId) (fs:List FL) (x y:SV):Option Bool:=au (arG x y) λp=>ay (E.P.stoodInHeld t) none (HD E eq p.1 p.2 fs)
def eqD (d:UD):Env->(TypeId->SV->SV->Option Bool)->TypeId->SV->SV->Option Bool:=match d with
 | .bool=>λ_ _ _ x y=>arb x y
 | .int _=>λE _ _ x y=>aJe E x y
 | .string=>λ_ _ _ x y=>eqStr x y
 | .pointer=>λ_ _ _ x y=>XJ x y
 | .slice _=>λ_ _ _ x y=>N8 x y
 | .map _ _=>λ_ _ _ x y=>XK x y
 | .struct fs=>λE eq t x y=>auN E eq t fs x y
 | .func=>λ_ _ _ x y=>amb x y
 |_=>λ_ _ _ _ _=>none
def eqT (E:Env) (n:Nat):TypeId->SV->SV->Option Bool:=
 @Nat.rec (λ_=>TypeId->SV->SV->Option Bool) (λ_ _ _=>none) (λ_ eq t x y=>au (E.ty.get t) λi=>eqD i.desc E eq t x y) n
def isConst:Operand->Bool
 | .const _=>true
 |_=>false
def auO (E:Env) (t:TypeId) (ox oy:Operand) (x:SV):Bool:=
 match x with
 | .agg _=> !E.P.eqGuardType E.P.depth t
 |_=>true
def HC (E:Env) (t:TypeId) (ox oy:Operand) (x y:SV):Option Bool:=ay (auO E t ox oy x) (eqT E 20 t x y) none
def lx (neg:Bool) (r:Option Bool):dJ:=au r λb=>some (.bool (ay neg (!b) b))
def GZ (r:Option Value):dJ:=au r λv=>some (uF v)
def Xw (E:Env) (op:BinOp) (t:TypeId) (k k':IntKind):SI->SI->dJ
 | .lit m,.lit n=>GZ (nK E.P (binOp op t (.int k m) (.int k' n)))
def acW (k:IntKind):SI->SI->SI
 | .lit m,.lit n=>.lit (k.wrap (m+n))
def NG (k:IntKind):SI->SI->SI
 | .lit m,.lit n=>.lit (k.wrap (m-n))
def Xz (o:BinOp):Env->BinOp->TypeId->IntKind->IntKind->SI->SI->dJ:=match o with
 | .add=>λ_ _ _ k k2 a b=>ay (gu k k2) (some (.int k (acW k a b))) none
 | .sub=>λ_ _ _ k k2 a b=>ay (gu k k2) (some (.int k (NG k a b))) none
 | .eql=>λE _ _ k k2 a b=>ay (gu k k2) (lx false (eqI E a b)) none
 | .neq=>λE _ _ k k2 a b=>ay (gu k k2) (lx true (eqI E a b)) none
 | .lss=>λE _ _ k k2 a b=>ay (gu k k2) (lx false (Dq E a b)) none
 | .leq=>λE _ _ k k2 a b=>ay (gu k k2) (lx true (Dq E b a)) none
 | .gtr=>λE _ _ k k2 a b=>ay (gu k k2) (lx false (Dq E b a)) none
 | .geq=>λE _ _ k k2 a b=>ay (gu k k2) (lx true (Dq E a b)) none
 |_=>λE op t k k2 a b=>Xw E op t k k2 a b
def ajC (o:BinOp):Env->BinOp->TypeId->ByteArray->ByteArray->dJ:=match o with
 | .eql=>λ_ _ _ a b=>some (.bool (Ee a b))
 | .neq=>λ_ _ _ a b=>some (.bool (!Ee a b))
 |_=>λE op t a b=>GZ (nK E.P (binOp op t (.string a) (.string b)))
def Uq (o:BinOp):Env->TypeId->Operand->Operand->SV->SV->dJ:=match o with
 | .eql=>λE t ox oy x y=>lx false (HC E t ox oy x y)
 | .neq=>λE t ox oy x y=>lx true (HC E t ox oy x y)
 |_=>λ_ _ _ _ _ _=>none
def acL (E:Env) (op:BinOp) (t:TypeId) (k:IntKind) (a:SI) (y:SV):dJ:=au (intOf y) λp=>Xz op E op t k p.1 a p.2
def aro (E:Env) (op:BinOp) (t:TypeId) (a:ByteArray) (y:SV):dJ:=au (strOf y) λb=>ajC op E op t a b
def avp (x:SV):Env->BinOp->TypeId->Operand->Operand->SV->SV->dJ:=match x with
 | .int k a=>λE op t _ _ _ y=>acL E op t k a y
 | .str a=>λE op t _ _ _ y=>aro E op t a y
 |_=>λE op t ox oy x y=>Uq op E t ox oy x y
def Ey (E:Env) (op:BinOp) (t:TypeId) (ox oy:Operand) (x y:SV):dJ:=avp x E op t ox oy x y
def XO (k:IntKind):SI->SI
 | .lit n=>.lit (k.wrap n)
def awi:SI->dJ
 | .lit n=>some (.str (Utf8.encode n))
def ajD:SV->dJ
 | .str s=>some (.str s)
 | .int _ e=>awi e
 |_=>none
def XP (d:UD):SV->dJ:=match d with
 | .int k=>λx=>au (intOf x) λp=>some (.int k (XO k p.2))
 | .string=>λx=>ajD x
 |_=>λ_=>none
def Qi (E:Env) (src dst:TypeId) (x:SV):dJ:=bE (E.ty.get src) (E.ty.get dst) λ_ i=>XP i.desc x
def PL:UnOp->Bool
 | .not=>true
 |_=>false
def isNeg:UnOp->Bool
 | .neg=>true
 |_=>false
def unV (x:SV):UnOp->dJ:=match x with
 | .bool b=>λop=>ay (PL op) (some (.bool (!b))) none
 | .int k e=>λop=>ay (isNeg op) (some (.int k (NG k (.lit 0) e))) none
 |_=>λ_=>none
def unA (op:UnOp) (x:SV):dJ:=unV x op
def mJ (place:Nat->Option (Nat×Nat)) (cs:aM):List (Nat×aM)->Option aM
 | []=>some cs
 |p::rest=>au (place p.1) λq=>ay (Nat.beq p.2.length q.2&&Nat.ble (Nat.add q.1 q.2) cs.length) (mJ place (dU cs q.1 p.2) rest) none
def jZ (tm:Tf):List (Nat×Operand)->Option (List (Nat×aM))
 | []=>some []
 |p::rest=>au (bU tm p.2) λv=>bE v.cells (jZ tm rest) λcs l=>some ((p.1,cs)::l)
def rep (z:aM):Nat->aM
 |0=> []
 |n+1=>z++rep z n
def Pf (E:Env) (fs:List FL) (j:Nat):Option (Nat×Nat):=au (fs[j]?) λf=>au (E.ty.get f.type) λfi=>some (f.off,fi.size)
def oM (size:Nat) (j:Nat):Option (Nat×Nat):=some (Nat.mul j size,size)
def Ky (r:Option aM):dJ:=au r λcs=>some (.agg cs)
def arl (d:UD):Env->aM->List (Nat×aM)->dJ:=match d with
 | .array _ e=>λE z gI=>au (E.ty.get e) λie=>Ky (mJ (oM ie.size) z gI)
 | .struct fs=>λE z gI=>Ky (mJ (Pf E fs) z gI)
 |_=>λ_ _ _=>none
def Ae (E:Env) (t:TypeId) (gI:List (Nat×aM)):dJ:=au (E.ty.get t) λi=>arl i.desc E i.zero gI
def Hs.up (h:Hs) (u:Up):Hs:=⟨h.hp.set u.1 u.2,h.nx,u.1::h.lg⟩
def Hs.gY (h:Hs) (us:cQ):Hs:= @List.rec Up (λ_=>Hs->Hs) (λh=>h) (λu _ ih h=>ih (h.up u)) us h
def Hs.put (h:Hs) (id:Nat) (o:SO):Hs:=h.up (id,some o)
def Hs.bump (h:Hs):Hs:=⟨h.hp,Nat.add h.nx 1,h.lg⟩
def Hs.fin (h:Hs) (us:cQ):Hs:= @List.rec Up (λ_=>Hs) h (λ_ _ _=>(h.gY us).bump) us
def nE:Option SO->Option (TypeId×aM)
 |some (.cells e cs)=>some (e,cs)
 |_=>none
def Iv:SV->Bool
 | .undef=>true
 |_=>false
def vy:aM->Bool
 | []=>true
 |x::l=>ay (Iv x) false (vy l)
def gP (o:Option SO) (off n:Nat):Option (TypeId×aM):=
 match o with
 |some (.cells e cs)=>some (e,cs)
 |some (.ro cs)=>ay (vy ((cs.drop off).take n)) (some (0,cs)) none
 |_=>none
def kM (h:Hf) (id off n:Nat):Option aM:=au (gP (h id) off n) λp=>ay (Nat.ble (Nat.add off n) p.2.length) (some ((p.2.drop off).take n)) none
def rowOf (x:SV):Hf->Nat->Option aM:=match x with
 | .sl i o n _=>λh size=>kM h i o (Nat.mul n size)
 | .sle=>λ_ _=>some []
 | .cR=>λ_ _=>some []
 |_=>λ_ _=>none
def wide (i:TI):Nat:=ay (kW i.desc) i.size 1
def nM (E:Env) (h:Hf) (t:TypeId) (v:SV):dJ:=au (vL v) λq=>au (E.ty.get t) λi=>au (gP (h q.1) q.2 (wide i)) λp=>ia i p.2 q.2
def p7 (E:Env) (h:Hf) (t:TypeId) (v:SV) (a:SV):Option cQ:=
 au (vL a) λq=>uI (E.ty.get t) v.cells (nE (h q.1)) λi xs p=>ay (Nat.beq xs.length i.size&&Nat.ble (Nat.add q.2 xs.length) p.2.length) (some [(q.1,some (.cells p.1 (dU p.2 q.2 xs)))]) none
def uE (E:Env) (e:TypeId) (id off n k:Nat):dJ:=ay (Nat.ble (Nat.succ k) n) (au (E.ty.get e) λie=>some (.ptr id (Nat.add off (Nat.mul k ie.size)))) none
def PS (d:UD):Env->SV->Nat->dJ:=match d with
 | .slice e=>λE x k=>au (asE x) λq=>uE E e q.1 q.2.1 q.2.2.1 k
 | .array n e=>λE x k=>au (vL x) λq=>uE E e q.1 q.2 n k
 |_=>λ_ _ _=>none
def lu (E:Env) (t:TypeId) (x:SV) (k:Nat):dJ:=au (E.ty.get t) λi=>PS i.desc E x k
def js (tm:Tf):Option Operand->Option da
 |none=>some none
 |some x=>au (bU tm x) λv=>au (lq v) λn=>some (some n)
def uP (m:Cp) (l:Nat):Cp:=
 match m with
 | .k c=>.k (Nat.sub c l)
 | .u e=>.u e
def xE (id off l h size:Nat) (m:Cp):SV:=ay (Nat.beq l 0) (.sl id off h m) (ay (Nat.ble (Nat.succ l) h) (.sl id (Nat.add off (Nat.mul l size)) (Nat.sub h l) (uP m l)) .sle)
def Xt (mx:da) (h reach:Nat):Bool:=
 match mx with
 |some m=>Nat.ble h m&&Nat.ble m reach
 |none=>true
def orC (a:da) (b:Cp):Cp:=
 match a with
 |some m=>.k m
 |none=>b
def reach (c:Cp) (n:Nat):Nat:=
 match c with
 | .k m=>m
 | .u _=>n
def IT (c:Cp) (e:TypeId):Bool:=
 match c with
 | .k _=>true
 | .u e'=>Nat.beq e' e
def uA (E:Env) (e:TypeId) (id off n:Nat) (cap:Cp) (lo hi mx:da):dJ:=
 au (E.ty.get e) λie=>ay (IT cap e&&(Nat.ble (lo.getD 0) (hi.getD n)&&(Nat.ble (hi.getD n) (reach cap n)&&Xt mx (hi.getD n) (reach cap n)))) (some (xE id off (lo.getD 0) (hi.getD n) ie.size (orC mx cap))) none
def Z5 (s:ByteArray) (lo hi mx:da):dJ:=
 match mx with
 |some _=>none
 |none=>ay (Nat.ble (lo.getD 0) (hi.getD s.size)&&Nat.ble (hi.getD s.size) s.size) (some (.str (s.extract (lo.getD 0) (hi.getD s.size)))) none
def mc:da->Bool
 |some n=>Nat.beq n 0
 |none=>true
def O4 (x:SV):Env->TypeId->da->da->da->dJ:=match x with
 | .sl i o n c=>λE e lo hi mx=>uA E e i o n c lo hi mx
 | .sle=>λ_ _ lo hi mx=>ay (mc lo&&(mc hi&&mx.isNone)) (some .sle) none
 | .cR=>λ_ _ lo hi mx=>ay (mc lo&&(mc hi&&mc mx)) (some .cR) none
 |_=>λ_ _ _ _ _=>none
def aov (d:UD):Env->SV->da->da->da->dJ:=match d with
 | .string=>λ_ x lo hi mx=>au (strOf x) λs=>Z5 s lo hi mx
 | .slice e=>λE x lo hi mx=>au (E.ty.get e) λ_=>O4 x E e lo hi mx
 | .array n e=>λE x lo hi mx=>au (vL x) λq=>uA E e q.1 q.2 n (.k n) lo hi mx
 |_=>λ_ _ _ _ _=>none
def Xu (hi mx:da):Bool:=
 match mx with
 |some _=>hi.isSome
 |none=>true
def BX (E:Env) (t:TypeId) (x:SV) (lo hi mx:da):dJ:=au (E.ty.get t) λi=>ay (Xu hi mx) (aov i.desc E x lo hi mx) none
def Mv (s:ByteArray):aM:=s.data.toList.map λb=>.int .u8 (.lit b.toNat)
def BS (h:Hf) (size:Nat) (x:SV):Option (Nat×aM):=bE (yJ x) (rowOf x h size) λn xs=>some (n,xs)
def srcV (x:SV):Hf->Nat->SV->Option (Nat×aM):=match x with
 | .str b=>λ_ size _=>ay (Nat.beq size 1) (some (b.size,Mv b)) none
 |_=>λh size x=>BS h size x
def uy (h:Hf) (size:Nat) (x:SV):Option (Nat×aM):=srcV x h size x
def jc (ie:TI):Bool:=Nat.ble ie.bytes 65536&&(Nat.ble 1 ie.size&&Nat.beq ie.zero.length ie.size)
def vM (new:Nat) (e:TypeId) (n:Nat) (cs:aM) (us:cQ):gf:=some (.sl new 0 n (.u e),us++ [(new,some (.cells e cs))])
def Bi (new:Nat) (e:TypeId) (size id off n:Nat) (cap:Cp) (m:Nat) (xs:aM) (p:TypeId×aM) (old:aM):gf:=
 match cap with
 | .k c=>
  ay (Nat.ble (Nat.add n m) c)
   (ay (Nat.ble (Nat.add off (Nat.mul (Nat.add n m) size)) p.2.length) (some (.sl id off (Nat.add n m) cap,[(id,some (.cells p.1 (dU p.2 (Nat.add off (Nat.mul n size)) xs)))])) none)
   (vM new e (Nat.add n m) (old++xs) [])
 | .u _=>ay (Nat.ble (Nat.add off (Nat.mul n size)) p.2.length&&Nat.beq e p.1) (vM new e (Nat.add n m) (old++xs) [(id,none)]) none
def P4 (n m:Nat):Cp->Bool
 | .k c=>Nat.ble (Nat.succ c) (Nat.add n m)
 | .u _=>false
def D1 (h:Hf) (new:Nat) (e:TypeId) (size m:Nat) (xs:aM) (id off n:Nat) (cap:Cp):gf:=ay (Nat.ble n 1000000) (ay (P4 n m cap) (au (kM h id off (Nat.mul n size)) λold=>vM new e (Nat.add n m) (old++xs) []) (bE (nE (h id)) (kM h id off (Nat.mul n size)) λp old=>Bi new e size id off n cap m xs p old)) none
def xP (x:SV):Hf->Nat->TypeId->Nat->Nat->aM->gf:=match x with
 | .sl i o n c=>λh new e size m xs=>D1 h new e size m xs i o n c
 | .cR=>λ_ new e _ m xs=>vM new e m xs []
 |_=>λ_ _ _ _ _ _=>none
def Vi (E:Env) (h:Hf) (new:Nat) (e:TypeId) (s x:SV):gf:=
 au (E.ty.get e) λie=>ay (jc ie) (au (uy h ie.size x) λq=>ay (Nat.ble q.1 1000000) (ay (Nat.beq q.1 0) (ay (UF s) (some (s,[])) none) (xP s h new e ie.size q.1 q.2)) none) none
def p9 (d:UD):Option TypeId:=match d with
 | .slice e=>some e
 |_=>none
def mC (E:Env) (h:Hf) (new:Nat) (t:TypeId) (s x:SV):gf:=au (E.ty.get t) λi=>au (p9 i.desc) λe=>Vi E h new e s x
def zR (d:UD):Bool:=match d with
 | .string=>true
 |_=>false
def Mj (d:UD):Bool:=match d with
 | .bool=>true
 |_=>false
def isLit:SI->Bool
 | .lit _=>true
def alv (k:IntKind):UD->Bool
 | .int k'=>gu k k'
 |_=>false
def Fm (x:SV):UD->Bool:=match x with
 | .bool _=>λd=>Mj d
 | .int k e=>λd=>isLit e&&alv k d
 | .str _=>λd=>zR d
 |_=>λ_=>false
def awh:SI->SI->Option Bool
 | .lit a,.lit b=>some (Ha a b)
def sameKey (x:SV):SV->Option Bool:=match x with
 | .bool a=>λy=>arb (.bool a) y
 | .int k a=>λy=>au (intOf y) λp=>ay (gu k p.1) (awh a p.2) none
 | .str a=>λy=>eqStr (.str a) y
 |_=>λ_=>none
def px (k:SV):jh->Nat->Option (Option (Nat×SV×Nat))
 | [],_=>some none
 |e::es,i=>
  match sameKey k e.1 with
  |some true=>some (some (i,e.2.1,e.2.2))
  |some false=>px k es (Nat.add i 1)
  |none=>none
def kf:Option SO->Option (jh×Nat)
 |some (.map es c)=>some (es,c)
 |_=>none
def acp (x:SV):Hf->Option jh:=match x with
 | .mp i=>λh=>au (kf (h i)) λp=>some p.1
 | .gL=>λ_=>some []
 |_=>λ_=>none
def okV (ok:Bool) (v:SV) (b:Bool):SV:=ay ok (.cm [v,.bool b]) v
def J9 (ok:Bool) (z:dJ):Option (Nat×SV×Nat)->dJ
 |some r=>some (okV ok r.2.1 true)
 |none=>au z λz=>some (okV ok z false)
def Ce (d:UD):Option (TypeId×TypeId):=match d with
 | .map k e=>some (k,e)
 |_=>none
def sO (E:Env) (h:Hf) (t:TypeId) (x k:SV) (ok:Bool):dJ:=
 au (E.ty.get t) λi=>au (Ce i.desc) λq=>bE (E.ty.get q.1) (E.ty.get q.2) λik ie=>ay (Fm k ik.desc) (au (acp x h) λes=>au (px k es 0) λr=>J9 ok (ia ie ie.zero 0) r) none
def SA (es:jh) (c:Nat) (k v:SV):Option (Nat×SV×Nat)->SO
 |some r=>.map (es.set r.1 (k,v,r.2.2)) c
 |none=>.map (es++ [(k,v,c)]) (Nat.add c 1)
def vV (E:Env) (h:Hf) (t:TypeId) (x k v:SV):Option cQ:=
 au (ati x) λid=>au (E.ty.get t) λi=>au (Ce i.desc) λq=>bE (E.ty.get q.1) (kf (h id)) λik p=>ay (Fm k ik.desc) (au (px k p.1 0) λr=>some [(id,some (SA p.1 p.2 k v r))]) none
def uS (n:Nat):SV:=.int .i64 (.lit (.ofNat n))
def atl (x:SV):Hf->dJ:=match x with
 | .mp i=>λh=>au (kf (h i)) λp=>some (uS p.1.length)
 | .gL=>λ_=>some (uS 0)
 |_=>λ_=>none
def yK (d:UD):SV->Hf->dJ:=match d with
 | .string=>λx _=>au (strOf x) λs=>some (uS s.size)
 | .slice _=>λx _=>au (yJ x) λn=>some (uS n)
 | .array n _=>λ_ _=>some (uS n)
 | .map _ _=>λx h=>atl x h
 |_=>λ_ _=>none
def eI (tm:Tf):List Operand->Option aM
 | []=>some []
 |x::xs=>bE (bU tm x) (eI tm xs) λv l=>some (v::l)
def same (r:dJ):gf:=au r λv=>some (v,[])
def unit (r:Option cQ):gf:=au r λus=>some (.cm [],us)
def one (tm:Tf) (x:Operand) (f:SV->gf):gf:=au (bU tm x) f
def two (tm:Tf) (x y:Operand) (f:SV->SV->gf):gf:=bE (bU tm x) (bU tm y) f
def Us (E:Env) (new:Nat) (e:TypeId):gf:=au (E.ty.get e) λi=>some (.ptr new 0,[(new,some (.cells e i.zero))])
def Ma (new:Nat) (e:TypeId) (v:SV):gf:=au v.cells λcs=>some (.ptr new 0,[(new,some (.cells e cs))])
def kT (E:Env) (new:Nat) (t:TypeId) (len:Nat) (gI:List (Nat×aM)):gf:=
 au (E.ty.get t) λi=>au (p9 i.desc) λe=>au (E.ty.get e) λie=>
  ay (jc ie&&Nat.ble (Nat.mul len ie.size) 16777216) (au (mJ (oM ie.size) (rep ie.zero len) gI) λcs=>some (.sl new 0 len (.k len),[(new,some (.cells e cs))])) none
def Uu:Fn->Bool
 | .func _=>true
 |_=>false
def aDA (tm:Tf) (f:Fn) (a c:List Operand):gf:=ay (Uu f) (bE (eI tm a) (eI tm c) λl m=>some (.fn f l m,[])) none
def Pr (new:Nat):gf:=some (.mp new,[(new,some (.map [] 0))])
def aHV (E:Env) (tm:Tf) (new:Nat) (t:TypeId):Option Operand->gf
 |none=>Pr new
 |some x=>bE (E.ty.get t) (bU tm x) λi v=>bE (Ce i.desc) (lq v) λ_ _=>Pr new
def B9 (E:Env) (new:Nat) (t:TypeId) (l c:Nat):gf:=
 au (E.ty.get t) λi=>au (p9 i.desc) λe=>au (E.ty.get e) λie=>
  ay (Nat.ble l c&&(Nat.ble c 1000000&&jc ie)) (some (.sl new 0 l (.k c),[(new,some (.cells e (rep ie.zero c)))])) none
def yu (d:UD):Option (List FL):=match d with
 | .struct fs=>some fs
 |_=>none
def qw (E:Env) (s:TypeId) (f:Nat) (v:SV):gf:=
 bE (E.ty.get s) (vL v) λi p=>au (yu i.desc) λfs=>au (fs[f]?) λfl=>au (E.ty.get fl.type) λfi=>ay (Nat.ble 1 fi.size) (some (.ptr p.1 (Nat.add p.2 fl.off),[])) none
def yG (E:Env) (t:TypeId) (f:Nat) (v:SV):gf:=
 bE (E.ty.get t) (HW v) λi cs=>au (yu i.desc) λfs=>au (fs[f]?) λfl=>au (E.ty.get fl.type) λfi=>same (ia fi cs fl.off)
def aDP (d:UD):Env->Nat->SV->gf:=match d with
 | .string=>λ_ k v=>au (strOf v) λs=>au (s.data.toList[k]?) λb=>some (.int .u8 (.lit (.ofNat b.toNat)),[])
 | .array n e=>λE k v=>bE (HW v) (E.ty.get e) λcs ie=>ay (Nat.ble (Nat.succ k) n) (same (ia ie cs (Nat.mul k ie.size))) none
 |_=>λ_ _ _=>none
def sN (E:Env) (t:TypeId) (k:Nat) (v:SV):gf:=au (E.ty.get t) λi=>aDP i.desc E k v
def aDv (x:SV):Hf->Option SO:=match x with
 | .mp i=>λh=>au (kf (h i)) λp=>some (.mapIter (some i) p.2 [] p.2)
 | .gL=>λ_=>some (.mapIter none 0 [] 0)
 |_=>λ_=>none
def Jf (d:UD) (v:SV) (h:Hf):Option SO:=
 match d with
 | .string=>au (strOf v) λs=>some (.pL s 0)
 | .map _ _=>aDv v h
 |_=>none
def wM (E:Env) (h:Hf) (new:Nat) (t:TypeId) (v:SV):gf:=au (E.ty.get t) λi=>au (Jf i.desc v h) λo=>some (.ptr new 0,[(new,some o)])
def Ds:Option SO->Option (ByteArray×Nat)
 |some (.pL s p)=>some (s,p)
 |_=>none
def wz (v:SV):da:=au (vL v) λq=>ay (Nat.beq q.2 0) (some q.1) none
def pQ (id:Nat) (p:ByteArray×Nat):SV×cQ:=
 ay (Nat.ble (Nat.succ p.2) p.1.size) (.cm [.bool true,uS p.2,.int .i32 (.lit (Utf8.decode p.1 p.2).1)],[(id,some (.pL p.1 (Nat.add p.2 (Utf8.decode p.1 p.2).2)))]) (.cm [.bool false],[])
def xk (h:Hf) (tV:Bool) (v:SV):gf:=ay tV (au (wz v) λid=>au (Ds (h id)) λp=>some (pQ id p)) none
def NU (E:Env) (mx:Bool) (x y:SV):dJ:=bE (intOf x) (intOf y) λa b=>au (ay mx (Dq E a.2 b.2) (Dq E b.2 a.2)) λr=>some (.int a.1 (ay r b.2 a.2))
def vY:UD->Bool
 | .slice _=>true
 | .string=>true
 |_=>false
def uY {Y:Type}:List Y->Option (Y×Y)
 | [a,b]=>some (a,b)
 |_=>none
def oz (E:Env) (h:Hf) (new:Nat) (b:Builtin) (aa:aM) (ts:List TypeId):gf:=
 match b with
 | .len=>bE aa.head? ts.head? λx t=>ay (Nat.beq aa.length 1) (au (E.ty.get t) λi=>same (yK i.desc x h)) none
 | .append=>bE (uY aa) (uY ts) λp q=>au (E.ty.get q.2) λi=>ay (vY i.desc) (mC E h new q.1 p.1 p.2) none
 | .min=>au (uY aa) λp=>same (NU E false p.1 p.2)
 | .max=>au (uY aa) λp=>same (NU E true p.1 p.2)
 |_=>none
def nW (E:Env) (tm:Tf) (h:Hf) (new:Nat) (c:Call):gf:=
 match c.callee with
 | .builtin b=>au (eI tm c.args.toList) λaa=>oz E h new b aa c.argTypes.toList
 |_=>none
def opD (o:Op):Env->Tf->Hf->Nat->gf:=match o with
 | .move x=>λ_ tm _ _=>one tm x λv=>some (v,[])
 | .assign x=>λ_ tm _ _=>one tm x λv=>some (v,[])
 | .pick c x y=>λ_ tm _ _=>au (bU tm c) λv=>au (pa v) λb=>one tm (ay b x y) λv=>some (v,[])
 | .alloc e=>λE _ _ new=>Us E new e
 | .box e x=>λ_ tm _ new=>one tm x (Ma new e)
 | .build t parts=>λE tm _ _=>au (jZ tm parts.toList) λgI=>same (Ae E t gI)
 | .buildSlice t len parts=>λE tm _ new=>au (jZ tm parts.toList) λgI=>kT E new t len gI
 | .insert t m k x=>λE tm h _=>two tm m k λa b=>one tm x λc=>unit (vV E h t a b c)
 | .load t x=>λE tm h _=>one tm x λv=>same (nM E h t v)
 | .store t x y=>λE tm h _=>two tm x y λa v=>unit (p7 E h t v a)
 | .nilCheck x=>λ_ tm _ _=>one tm x λv=>same (Pq v)
 | .binOp op t x y _=>λE tm _ _=>two tm x y λv u=>same (Ey E op t x y v u)
 | .unOp op _ x=>λ_ tm _ _=>one tm x λv=>same (unA op v)
 | .convert s d x=>λE tm _ _=>one tm x λv=>same (Qi E s d v)
 | .makeFunc f a c=>λ_ tm _ _=>aDA tm f a.toList c.toList
 | .makeMap t r=>λE tm _ new=>aHV E tm new t r
 | .makeSlice t l c=>λE tm _ new=>two tm l c λu v=>bE (lq u) (lq v) (B9 E new t)
 | .slice t x lo hi mx=>λE tm _ _=>one tm x λv=>uI (js tm lo) (js tm hi) (js tm mx) λl u m=>same (BX E t v l u m)
 | .fieldAddr s x f=>λE tm _ _=>one tm x (qw E s f)
 | .field t x f=>λE tm _ _=>one tm x (yG E t f)
 | .indexAddr t x ix=>λE tm _ _=>two tm x ix λv u=>au (lq u) λk=>same (lu E t v k)
 | .index t x ix=>λE tm _ _=>two tm x ix λv u=>au (lq u) λk=>sN E t k v
 | .lookup t x k ok=>λE tm h _=>two tm x k λa b=>same (sO E h t a b ok)
 | .mapUpdate t m k x=>λE tm h _=>two tm m k λa b=>one tm x λc=>unit (vV E h t a b c)
 | .range t x=>λE tm h new=>one tm x (wM E h new t)
 | .next it tV=>λ_ tm h _=>one tm it (xk h tV)
 | .extract x i=>λ_ tm _ _=>one tm x λv=>au (OJ v) λvs=>same (vs[i]?)
 | .call c=>λE tm h new=>nW E tm h new c
 |_=>λ_ _ _ _=>none
def oO (E:Env) (op:Op) (tm:Tf) (h:Hf) (new:Nat):gf:=opD op E tm h new
inductive Ex where
 |normal|exit (id:Nat)|ret|fQ (v:SV)
 deriving Inhabited
def setArgs (vs:aM):Nat->cq->cq:= @List.rec SV (λ_=>Nat->cq->cq) (λ_ t=>t) (λv _ ih i t=>ih (Nat.add i 1) (t.set i (some v))) vs
def cM (tm:cq) (d:da) (v:SV):cq:= @Option.rec Nat (λ_=>cq) tm (λd=>tm.set d (some v)) d
def fS (nt:Nat) (d:da):Bool:= @Option.rec Nat (λ_=>Bool) true (λd=>Nat.ble (Nat.succ d) nt) d
def aHM (x:SV):Bool->Option Bool:=match x with
 | .bool b=>λwant=>some (b==want)
 | .cm _=>λ_=>some false
 |_=>λ_=>none
def ajq (want:Bool) (x:SV):Option Bool:=aHM x want
def Cb (l:bS):Nat->da:= @List.rec Oper (λ_=>Nat->da) (λ_=>none) (λo _ ih j=> @Nat.rec (λ_=>da) o.dst (λk _=>ih k) j) l
def wG (ops:bS) (tm:Tf) (j:Nat) (want:Bool):Option Bool:= @Option.rec Nat (λ_=>Option Bool) (some false) (λt=>au (tm t) (ajq want)) (Cb ops j)
def eD (ops:bS) (o:Oper) (tm:Tf):Option Bool:= @Option.rec (Nat×Bool) (λ_=>Option Bool) (some true) (λg=>wG ops tm g.1 g.2) o.guard
def O7 (E:Env) (tm:Tf) (h:Hf):ResultVar->dJ
 | .tmp t=>tm t
 | .cell t ty=>au (tm t) (nM E h ty)
def sM (E:Env) (tm:Tf) (h:Hf):List ResultVar->Option aM
 | []=>some []
 |r::rs=>bE (O7 E tm h r) (sM E tm h rs) λv l=>some (v::l)
def oneOf:aM->SV
 | [v]=>v
 |vs=>.cm vs
def BD:List UInt8->List UInt8->Bool
 | [],[]=>false
 | [],_::_=>true
 |_::_,[]=>false
 |a::l,b::m=>ay (Nat.ble (Nat.succ a.toNat) b.toNat) true (ay (Nat.beq a.toNat b.toNat) (BD l m) false)
def CD (a b:ByteArray):Int:=ay (BD a.data.toList b.data.toList) (-1) (ay (sC a.data.toList b.data.toList) 0 1)
structure Rc where
 i:Nat
 call:Bool
 rd:aI
 wr:aI
 lo:Nat
 hi:Nat
inductive Dm where
 |mark (d:Nat)
 |fn (k:FuncId) (args jk:aM)
inductive j7 where
 |code (nt:Nat) (c:Code) (tm:cq) (mk:List Dm) (h:Hs)
 |ops (nt:Nat) (all l:bS) (tm:cq) (mk:List Dm) (h:Hs)
 |draw (nt W:Nat) (all:bS) (base i M:Nat) (prev:List Rc) (l:bS) (tm:cq) (h:Hs)
 |call (f:SV) (args:aM) (h:Hs)
structure Oc where
 e:Ex
 tm:cq
 dm:List Dm
 h:Hs
structure Rs where
 fQ:Bool
 v:SV
 h:Hs
inductive Out where
 |cU (l:List Oc)
 |st (tm:cq) (h:Hs)
 |gg (l:List Rs)
 |fail (why:String)
 |SD (k:Nat) (args:aM) (h:Hs)
 deriving Inhabited
abbrev Out.code (e:Ex) (tm:cq) (mk:List Dm) (h:Hs):Out:=.cU [⟨e,tm,mk,h⟩]
abbrev Out.res (v:SV) (h:Hs):Out:=.gg [⟨false,v,h⟩]
abbrev Out.fQ (v:SV) (h:Hs):Out:=.gg [⟨true,v,h⟩]
def acU:Out->Out->Out
 | .cU a,.cU b=>.cU (a++b)
 | .gg a,.gg b=>.gg (a++b)
 | .fail s,_=>.fail s
 |_,.fail s=>.fail s
 |_,_=>.fail ""
def lj {Y:Type} (k:Y->Out) (l:List Y):Out:=
 @List.rec Y (λ_=>Out) (.fail "") (λo l ih=> @List.rec Y (λ_=>Out) (k o) (λ_ _ _=>acU (k o) ih) l) l
def Jo (r:Out) (k:Ex->cq->List Dm->Hs->Out):Out:= @Out.rec (λ_=>Out) (λl=>lj (λo=>k o.e o.tm o.dm o.h) l) (λ_ _=>.fail "") (λ_=>.fail "") (λs=>.fail s) (λa b c=>.SD a b c) r
def stK (r:Out) (k:cq->Hs->Out):Out:= @Out.rec (λ_=>Out) (λ_=>.fail "") k (λ_=>.fail "") (λs=>.fail s) (λa b c=>.SD a b c) r
def TZ (r:Out) (k kp:SV->Hs->Out):Out:= @Out.rec (λ_=>Out) (λ_=>.fail "") (λ_ _=>.fail "") (λl=>lj (λr=>ay r.fQ (kp r.v r.h) (k r.v r.h)) l) (λs=>.fail s) (λa b c=>.SD a b c) r
def one1 (l:List Rs) (k:Rs->Out):Out:= @List.rec Rs (λ_=>Out) (.fail "") (λr l _=> @List.rec Rs (λ_=>Out) (k r) (λ_ _ _=>.fail "") l) l
def ata (r:Out) (k kp:SV->Hs->Out):Out:= @Out.rec (λ_=>Out) (λ_=>.fail "") (λ_ _=>.fail "") (λl=>one1 l λr=>ay r.fQ (kp r.v r.h) (k r.v r.h)) (λs=>.fail s) (λa b c=>.SD a b c) r
def seqE (e:Ex) (tm:cq) (mk:List Dm) (h:Hs) (k:cq->List Dm->Hs->Out):Out:= @Ex.rec (λ_=>Out) (k tm mk h) (λid=>.code (.exit id) tm mk h) (.code .ret tm mk h) (λv=>.code (.fQ v) tm mk h) e
def Ei (r:Out) (k:cq->List Dm->Hs->Out):Out:=Jo r λe tm mk h=>seqE e tm mk h k
def leave (id:Nat) (e:Ex):Ex:= @Ex.rec (λ_=>Ex) .normal (λid'=>ay (Nat.beq id' id) .normal (.exit id')) .ret (λv=>.fQ v) e
def Qr (id:Nat) (r:Out):Out:=Jo r λe tm mk h=>.code (leave id e) tm mk h
def Qj (v:dJ) (a b:Out):Out:= @Option.rec Bool (λ_=>Out) (.fail "") (λc=>ay c a b) (au v pa)
def UX (E:Env):SV->Bool
 | .fn (.func k) _ _=> @Option.rec Func (λ_=>Bool) false (λfn=>fn.body.isSome) (E.fn.get k)
 |_=>false
def axX (c:Code):Env->(j7->Out)->Nat->cq->List Dm->Hs->Out:= @Code.rec (λ_=>Env->(j7->Out)->Nat->cq->List Dm->Hs->Out)
 (λ_ _ _ tm mk h=>.code .normal tm mk h)
 (λ_ ops draw _ rec nt tm mk h=>ay draw (stK (rec (.draw nt ops.size ops.toList h.nx 0 0 [] ops.toList tm ⟨h.hp,Nat.add h.nx ops.size,h.lg⟩)) λtm' h'=>.code .normal tm' mk h') (rec (.ops nt ops.toList ops.toList tm mk h)))
 (λa b _ _ _ rec nt tm mk h=>Ei (rec (.code nt a tm mk h)) λtm' mk' h'=>rec (.code nt b tm' mk' h'))
 (λc a b _ _ _ rec nt tm mk h=>Qj (bU tm.get c) (rec (.code nt a tm mk h)) (rec (.code nt b tm mk h)))
 (λid c _ _ rec nt tm mk h=>Qr id (rec (.code nt c tm mk h)))
 (λc _ _ rec nt tm mk h=>Ei (rec (.code nt c tm mk h)) λtm' mk' h'=>rec (.code nt (.loop c) tm' mk' h'))
 (λ_ _ _ _ _ _ _ _ _ _ _ _=>.fail "")
 (λid _ _ _ tm mk h=>.code (.exit id) tm mk h)
 (λ_ _ _ _ _ _ _ _=>.fail "")
 (λ_ _ _ _ _ _ _=>.fail "")
 (λ_ _ _ _ _ _ _=>.fail "")
 (λ_ _ _ tm mk h=>.code .ret tm mk h)
 (λ_ _ _ _ _ _ _=>.fail "") c
def pR (tm:Tf):Callee->dJ
 | .value x=>bU tm x
 |_=>none
def isValue:Callee->Bool
 | .value _=>true
 |_=>false
def ir (o:Op):Option Call:=match o with
 | .call c=>ay (isValue c.callee) (some c) none
 |_=>none
def G5 (x:Nat):aI->Bool
 | []=>false
 |y::l=>ay (Nat.beq x y) true (G5 x l)
def U9 (o:Op):Option Call:=match o with
 | .defer c=>ay (isValue c.callee) (some c) none
 |_=>none
def Un (o:Op):Option Operand:=match o with
 | .panic x=>some x
 |_=>none
def goK (rec:j7->Out) (h:Hs) (f:dJ) (aa:Option aM) (k kp:SV->Hs->Out):Out:=
 @Option.rec (SV×aM) (λ_=>Out) (.fail "") (λp=>TZ (rec (.call p.1 p.2 h)) k kp) (bE f aa λf aa=>some (f,aa))
def alQ (rec:j7->Out) (h:Hs) (f:dJ) (aa:Option aM) (k kp:SV->Hs->Out):Out:=
 @Option.rec (SV×aM) (λ_=>Out) (.fail "") (λp=>ata (rec (.call p.1 p.2 h)) k kp) (bE f aa λf aa=>some (f,aa))
def tf (rec:j7->Out) (nt:Nat) (all l:bS) (tm:cq) (mk:List Dm) (d:da) (v:SV) (h:Hs):Out:=rec (.ops nt all l (cM tm d v) mk h)
def ajr (rec:j7->Out) (nt:Nat) (all l:bS) (tm:cq) (mk:List Dm) (h:Hs) (o:Oper) (r:gf):Out:=
 @Option.rec (SV×cQ) (λ_=>Out) (.fail o.pos) (λr=>tf rec nt all l tm mk o.dst r.1 (h.fin r.2)) r
def zK (o:Op):Option (Operand×Bool):=match o with
 | .next it tV=>ay tV none (some (it,false))
 | .entry it=>some (it,true)
 |_=>none
def G7 (seen:aI) (es:jh):jh:=es.filter λe=> !G5 e.2.2 seen
def iterM (since:Nat) (seen:aI) (last c:Nat) (es:jh):Bool:=
 es.all (λe=>Nat.ble (Nat.succ e.2.2) since)&&Nat.ble since last
def agQ (rec:j7->Out) (nt:Nat) (all l:bS) (tm:cq) (mk:List Dm) (h:Hs) (d:da) (id m since:Nat) (seen:aI) (c:Nat) (es:jh):Out:=
 @List.rec (SV×SV×Nat) (λ_=>Out) (tf rec nt all l tm mk d (.cm [.bool false]) h) (λ_ _ _=>lj (λe=>tf rec nt all l tm mk d (.cm [.bool true,e.1,e.2.1]) (h.put id (.mapIter (some m) since (seen++ [e.2.2]) c))) (G7 seen es)) (G7 seen es)
def akW:aI->da
 | []=>none
 | [a]=>some a
 |_::l=>akW l
def XG (b:Nat):jh->dJ
 | []=>none
 |e::es=>ay (Nat.beq e.2.2 b) (some (.cm [e.1,e.2.1])) (XG b es)
def FK (h:Hf) (id:Nat):dJ:=
 match h id with
 |some (.mapIter (some m) since seen last)=>
  (match h m with
  |some (.map es c)=>ay (Nat.beq c last) (au (akW seen) λb=>XG b es) none
  |_=>none)
 |_=>none
def P9 (rec:j7->Out) (nt:Nat) (all l:bS) (tm:cq) (mk:List Dm) (h:Hs) (d:da) (r:dJ):Out:= @Option.rec SV (λ_=>Out) (.fail "") (λv=>tf rec nt all l tm mk d v h) r
def yv (rec:j7->Out) (nt:Nat) (all l:bS) (tm:cq) (mk:List Dm) (h:Hs) (d:da) (id:Nat):Out:=
 match h.hp.get id with
 |some (.mapIter none _ _ _)=>tf rec nt all l tm mk d (.cm [.bool false]) h
 |some (.mapIter (some m) since seen last)=>
  (match h.hp.get m with
  |some (.map es c)=>ay (iterM since seen last c es) (agQ rec nt all l tm mk h d id m since seen c es) (.fail "")
  |_=>.fail "")
 |_=>.fail ""
def alb (rec:j7->Out) (nt:Nat) (all l:bS) (tm:cq) (mk:List Dm) (h:Hs) (d:da) (isE:Bool) (v:dJ):Out:=
 @Option.rec Nat (λ_=>Out) (.fail "") (λid=>ay isE (P9 rec nt all l tm mk h d (FK h.hp.get id)) (yv rec nt all l tm mk h d id)) (au v wz)
def Xl (E:Env) (rec:j7->Out) (nt:Nat) (all l:bS) (tm:cq) (mk:List Dm) (h:Hs) (o:Oper) (it:Option (Operand×Bool)):Out:=
 @Option.rec (Operand×Bool) (λ_=>Out) (ajr rec nt all l tm mk h o (oO E o.op tm.get h.hp.get h.nx)) (λx=>alb rec nt all l tm mk h o.dst x.2 (bU tm.get x.1)) it
def doK (E:Env) (rec:j7->Out) (nt:Nat) (all l:bS) (tm:cq) (mk:List Dm) (h:Hs) (o:Oper) (c:Option Call):Out:=
 @Option.rec Call (λ_=>Out) (Xl E rec nt all l tm mk h o (zK o.op)) (λc=>goK rec h (pR tm.get c.callee) (eI tm.get c.args.toList) (tf rec nt all l tm mk o.dst) λv h=>.code (.fQ v) tm mk h) c
def LB (E:Env) (rec:j7->Out) (nt:Nat) (all l:bS) (tm:cq) (mk:List Dm) (h:Hs) (o:Oper) (w:Option Bool):Out:=
 @Option.rec Bool (λ_=>Out) (.fail "") (λw=>ay w (doK E rec nt all l tm mk h o (ir o.op)) (tf rec nt all l tm mk o.dst (.cm []) h)) w
def agP (E:Env) (rec:j7->Out) (nt:Nat) (all l:bS) (tm:cq) (mk:List Dm) (h:Hs):Out:=
 @List.rec Oper (λ_=>Out) (.code .normal tm mk h) (λo l _=>ay (fS nt o.dst) (LB E rec nt all l tm mk h o (eD all o tm.get)) (.fail "")) l
def force {O:Type} (m:Nat) (f:Nat->O):O:=Nat.rec (f 0) (λk _=>f (k+1)) m
def jv (o:Oper):aI:=(o.after.toList.filter (Region.binds .any ·)).map (·.on)
def mN (W M:Nat):aI->Nat
 | []=>0
 |i::ds=>Nat.lor (mN W M ds) (Nat.lor (Nat.shiftLeft 1 i) (Nat.mod (Nat.shiftRight M (Nat.mul i W)) (Nat.pow 2 W)))
def jQ (m i:Nat):Bool:=Nat.beq (Nat.land (Nat.shiftRight m i) 1) 1
def ke (x:Nat):aI->Bool
 | []=>false
 |y::l=>ay (Nat.beq x y) true (ke x l)
def qo:aI->aI->Bool
 | [],_=>true
 |x::l,m=>ay (ke x m) false (qo l m)
def En:aI->Bool
 | []=>true
 |_=>false
def rN (lo hi:Nat):aI->Bool
 | []=>true
 |x::l=>ay (Nat.ble (Nat.succ x) lo) (rN lo hi l) (ay (Nat.ble hi x) (rN lo hi l) false)
def Fu (p r:Rc):Bool:=
 rN p.lo p.hi r.rd&&(rN p.lo p.hi r.wr&&(rN r.lo r.hi p.rd&&(rN r.lo r.hi p.wr&&(qo p.rd r.wr&&(qo r.rd p.wr&&(qo p.wr r.wr &&
  ay p.call (ay r.call false (En r.wr)) (ay r.call (En p.wr) true)))))))
def gM (m:Nat) (r:Rc):List Rc->Bool
 | []=>true
 |p::ps=>ay (jQ m p.i) (gM m r ps) (ay (Fu p r) (gM m r ps) false)
def nj (j:Nat):aI->Bool
 | []=>true
 |i::l=>ay (Nat.ble (Nat.succ i) j) (nj j l) false
def mo:dJ->aI
 |some (.ptr i _)=> [i]
 |some (.sl i _ _ _)=> [i]
 |some (.mp i)=> [i]
 |_=> []
def pj (tm:Tf):List Operand->aI
 | []=> []
 |x::xs=>mo (bU tm x)++pj tm xs
def idM:dJ->aI
 |some (.mp i)=> [i]
 |_=> []
def Hc (tm:Tf):List Operand->aI
 | []=> []
 |x::xs=>idM (bU tm x)++Hc tm xs
def vp (c:Call):Bool:=
 match c.callee with
 | .builtin .len=>true
 |_=>false
def kL (op:Op) (tm:Tf):aI:=
 match op with
 | .load _ x=>pj tm [x]
 | .store _ x y=>pj tm [x,y]
 | .lookup _ x k _=>pj tm [x,k]
 | .mapUpdate _ m k x=>pj tm [m,k,x]
 | .insert _ m k x=>pj tm [m,k,x]
 | .next it _=>pj tm [it]
 | .range _ x=>pj tm [x]
 | .call c=>ay (vp c) (Hc tm c.args.toList) (pj tm c.args.toList)
 |_=> []
def og (new:Nat):cQ->aI
 | []=> []
 |u::us=>ay (Nat.beq u.1 new) (og new us) (u.1::og new us)
def below (n:Nat):aI->aI->aI
 | [],acc=>acc
 |x::l,acc=>ay (Nat.ble (Nat.succ x) n) (below n l (x::acc)) (below n l acc)
def qB (m:Nat):List Rc->Hp->Hp
 | [],hp=>hp
 |p::ps,hp=>ay (jQ m p.i) (qB m ps hp) (qB m ps (hp.set p.lo none))
def jb (m:Nat) (old:Hp):List Rc->Hp->Hp
 | [],hp=>hp
 |p::ps,hp=>ay (jQ m p.i) (jb m old ps hp) (jb m old ps (hp.set p.lo (old.get p.lo)))
def rO (rec:j7->Out) (nt W:Nat) (all:bS) (base i M m:Nat) (prev:List Rc) (l:bS) (tm:cq) (d:da) (r:Rc) (v:SV) (h:Hs):Out:=
 ay (gM m r prev) (force (Nat.lor M (Nat.shiftLeft m (Nat.mul i W))) λM'=>rec (.draw nt W all base (Nat.add i 1) M' (r::prev) l (cM tm d v) h)) (.fail "")
def ajs (rec:j7->Out) (nt W:Nat) (all:bS) (base i M m:Nat) (prev:List Rc) (l:bS) (tm:cq) (h:Hs) (o:Oper) (r:gf):Out:=
 @Option.rec (SV×cQ) (λ_=>Out) (.fail o.pos) (λr=>rO rec nt W all base i M m prev l tm o.dst ⟨i,false,kL o.op tm.get,og (Nat.add base i) r.2,Nat.add base i,Nat.add (Nat.add base i) 1⟩ r.1 (h.gY r.2)) r
def doD (E:Env) (rec:j7->Out) (nt W:Nat) (all:bS) (base i M m:Nat) (prev:List Rc) (l:bS) (tm:cq) (h:Hs) (o:Oper) (c:Option Call):Out:=
 @Option.rec Call (λ_=>Out) (ajs rec nt W all base i M m prev l tm h o (oO E o.op tm.get h.hp.get (Nat.add base i)))
  (λc=>alQ rec ⟨qB m prev h.hp,h.nx,[]⟩ (pR tm.get c.callee) (eI tm.get c.args.toList) (λv h2=>
   rO rec nt W all base i M m prev l tm o.dst ⟨i,true,[],below h.nx h2.lg [],h.nx,h2.nx⟩ v ⟨jb m h.hp prev h2.hp,h2.nx,below h.nx h2.lg h.lg⟩)
   λ_ _=>.fail "") c
def Xf (E:Env) (rec:j7->Out) (nt W:Nat) (all:bS) (base i M m:Nat) (prev:List Rc) (l:bS) (tm:cq) (h:Hs) (o:Oper) (w:Option Bool):Out:=
 @Option.rec Bool (λ_=>Out) (.fail "") (λw=>ay w (doD E rec nt W all base i M m prev l tm h o (ir o.op)) (rO rec nt W all base i M m prev l tm o.dst ⟨i,false,[],[],Nat.add base i,Nat.add (Nat.add base i) 1⟩ (.cm []) h)) w
def YQ (E:Env) (rec:j7->Out) (nt W:Nat) (all:bS) (base i M:Nat) (prev:List Rc) (l:bS) (tm:cq) (h:Hs):Out:=
 @List.rec Oper (λ_=>Out) (.st tm h) (λo l _=>ay (fS nt o.dst && nj i (jv o)) (force (Nat.mod (mN W M (jv o)) (Nat.pow 2 W)) λm=>Xf E rec nt W all base i M m prev l tm h o (eD all o tm.get)) (.fail "")) l
def YN:List Operand->aI
 | []=> []
 |x::xs=>(match x with| .tmp t=>t::YN xs|_=>YN xs)
def looks (all:bS) (o:Oper):aI:=YN o.op.operands.toList++(match o.guard with|some g=>(Cb all g.1).toList|none=> [])
def E6 (all:bS) (p r:Oper):Bool:=qo p.dst.toList (looks all r)&&(qo r.dst.toList (looks all p)&&qo p.dst.toList r.dst.toList)
def BW (all:bS) (m:Nat) (r:Oper):Nat->bS->Bool
 |_,[]=>true
 |k,p::ps=>ay (jQ m k) (BW all m r (Nat.sub k 1) ps) (ay (E6 all p r) (BW all m r (Nat.sub k 1) ps) false)
def BA (W:Nat) (all:bS):bS->Nat->Nat->bS->Bool
 | [],_,_,_=>true
 |o::l,i,M,prev=>force (Nat.mod (mN W M (jv o)) (Nat.pow 2 W)) λm=>ay (BW all m o (Nat.sub i 1) prev) (force (Nat.lor M (Nat.shiftLeft m (Nat.mul i W))) λM'=>BA W all l (Nat.add i 1) M' (o::prev)) false
def codeOk (c:Code):Bool:= @Code.rec (λ_=>Bool) true (λ_ ops draw=>ay draw (BA ops.size ops.toList ops.toList 0 0 []) true) (λ_ _ a b=>a&&b) (λ_ _ _ a b=>a&&b) (λ_ _ a=>a) (λ_ a=>a) (λ_ _ _ _ a b=>a&&b) (λ_=>true) (λ_ a=>a) (λ_=>true) (λ_=>true) true (λ_=>true) c
def alR (fn:Func):Bool:= @Option.rec Code (λ_=>Bool) true codeOk fn.body
def XM (e:Ex):Option dJ:= @Ex.rec (λ_=>Option dJ) (some none) (λ_=>none) (some none) (λv=>some (some v)) e
def zS (s:String):Bool:=s== "runtime.NumGoroutine"
def PK (e:Ex):Bool:= @Ex.rec (λ_=>Bool) true (λ_=>false) true (λ_=>false) e
def mT (e:Ex):Bool:= @Ex.rec (λ_=>Bool) true (λ_=>false) false (λ_=>false) e
def auQ (E:Env) (fn:Func) (tm:cq) (u:dJ) (h:Hs):Out:=
 @Option.rec SV (λ_=>Out) (@Option.rec aM (λ_=>Out) (.fail fn.name) (λvs=>.res (oneOf vs) h) (sM E tm.get h.hp.get fn.results.toList)) (λv=>.fQ v h) u
def zP (E:Env) (fn:Func) (tm:cq):List Dm->dJ->Hs->Out
 | [],u,h=>auQ E fn tm u h
 |_,_,_=>.fail ""
def Qh (nx:Nat) (lg:aI) (r:Out):Out:=TZ r (λv h=>.res v ⟨h.hp,h.nx,below nx h.lg lg⟩) λv h=>.fQ v ⟨h.hp,h.nx,below nx h.lg lg⟩
def Jc (E:Env) (rec:j7->Out) (fn:Func) (nx:Nat) (lg:aI) (r:Out):Out:=
 Jo r λe tm mk h=> @Option.rec dJ (λ_=>Out) (.fail "") (λu=>Qh nx lg (zP E fn tm mk u h)) (XM e)
def ack (fn:Func) (aa:aM) (h:Hs):Out:=
 match aa with
 | [a,b]=>(match strOf a with|some a=>(match strOf b with|some b=>ay (fn.name== "internal/bytealg.abigen_runtime_cmpstring") (.res (.int .i64 (.lit (CD a b))) h) (.fail fn.name)|_=>.fail fn.name)|_=>.fail fn.name)
 |_=>.fail fn.name
def acI (E:Env) (rec:j7->Out) (k:Nat) (fn:Func) (aa:aM) (h:Hs):Out:=
 @Option.rec Code (λ_=>Out) (ack fn aa h) (λc=>ay (Nat.ble aa.length fn.ntmps) (ay (zS fn.name) (.fail "") (Jc E rec fn h.nx h.lg (rec (.code fn.ntmps c (setArgs aa 0 .nil) [] ⟨h.hp,h.nx,[]⟩)))) (.fail "")) fn.body
def CA (A B C:Nat) (svs:aM):aM:=svs.take A++((svs.drop B).take (Nat.sub C B)++(List.replicate (Nat.sub B A) .undef++svs.drop C))
def uV {Y:Type} (xs:List Y) (k:Nat) (ys:List Y):List Y:=xs.take k++(ys++xs.drop k)
def amq (off len sz:Nat):Cp->Bool
 | .k m=>Nat.ble (Nat.add off (Nat.mul m sz)) len
 | .u _=>true
def U7 (sz:Nat) (f:Hf):aM->gf
 | [.sl id off n c,.int .i64 a,.int .i64 b]=>uI (UA a) (UA b) (nE (f id)) λi j p=>
   ay (Nat.ble (Nat.succ i) j&&(Nat.ble j n&&Nat.ble (Nat.add off (Nat.mul n sz)) p.2.length)) (some (.sl id off (Nat.sub n (Nat.sub j i)) c,[(id,some (.cells p.1 (CA (Nat.add off (Nat.mul i sz)) (Nat.add off (Nat.mul j sz)) (Nat.add off (Nat.mul n sz)) p.2)))])) none
 |_=>none
def abu (e:TypeId) (sz:Nat) (f:Hf) (new:Nat):aM->gf
 | [.sl id off n c,.int .i64 a,.sl Dw wa q c2]=>uI (UA a) (nE (f id)) (nE (f Dw)) λi p p2=>
   ay (Nat.ble i n&&(Nat.ble 1 q&&(Nat.ble n 1000000&&(Nat.ble q 1000000&&(!Nat.beq id Dw&&(Nat.beq p.1 e&&(Nat.ble (Nat.add off (Nat.mul n sz)) p.2.length&&(Nat.ble (Nat.add wa (Nat.mul q sz)) p2.2.length&&amq off p.2.length sz c))))))))
    (some (.sl new 0 (Nat.add n q) (.u e),[(id,none),(new,some (.cells e (uV ((p.2.drop off).take (Nat.mul n sz)) (Nat.mul i sz) ((p2.2.drop wa).take (Nat.mul q sz)))))])) none
 |_=>none
def Av (x:Int):List Int->List Int
 | []=> [x]
 |y::ys=>if x<=y then x::y::ys else y::Av x ys
def lY:List Int->List Int
 | []=> []
 |x::xs=>Av x (lY xs)
def ld:List Int->List Int
 | []=> []
 |x::xs=>match xs with
  | []=> [x]
  |y::_=>if x=y then ld xs else x::ld xs
def ddZ (xs:List Int):List Int:=ld xs++List.replicate (xs.length-(ld xs).length) 0
def zc (b:Bool) (xs:List Int):List Int:=ay b (lY xs) (ddZ xs)
def akQ:SV->Option Int
 | .int .i64 (.lit x)=>some x
 |_=>none
def Mk (l:aM):Option (List Int):= @List.rec SV (λ_=>Option (List Int)) (some []) (λv _ ih=>bE (akQ v) ih λx r=>some (x::r)) l
def mE (l:List Int):aM:=l.map λx=>.int .i64 (.lit x)
def PN (b:Bool) (f:Hf):aM->gf
 | [.cR]=>some (ay b (.cm []) .cR,[])
 | [.sl id off n c]=>ay (Nat.beq n 0) (some (ay b (.cm []) (.sl id off 0 c),[])) (au (nE (f id)) λp=>au (Mk ((p.2.drop off).take n)) λxs=>
   ay (Nat.ble 1 n&&(Nat.ble (Nat.add off n) p.2.length&&Nat.ble n 4294967295)) (some (ay b (.cm []) (.sl id off (ld xs).length c),[(id,some (.cells p.1 (p.2.take off++(mE (zc b xs)++p.2.drop (Nat.add off n)))))])) none)
 |_=>none
def oo (E:Env) (c:Nat) (f:Hf) (new:Nat) (aa:aM):gf:=
 ay (Nat.ble 1048576 c) (PN (Nat.beq c 1048576) f aa) (au (E.ty.get (Nat.div c 2)) λie=>ay (Nat.beq (Nat.mod c 2) 0) (U7 ie.size f aa) (abu (Nat.div c 2) ie.size f new aa))
def rM (k:Nat):List (Nat×Nat)->da
 | []=>none
 |p::l=>ay (Nat.beq p.1 k) (some p.2) (rM k l)
def ach (h:Hs) (us:cQ):Hs:=⟨(Hs.fin ⟨h.hp,h.nx,[]⟩ us).hp,(Hs.fin ⟨h.hp,h.nx,[]⟩ us).nx,below h.nx (Hs.fin ⟨h.hp,h.nx,[]⟩ us).lg h.lg⟩
def aky (h:Hs) (r:gf):Out:= @Option.rec (SV×cQ) (λ_=>Out) (.fail "") (λp=>.res p.1 (ach h p.2)) r
def Dg (E:Env) (k:Nat) (aa:aM) (h:Hs):Out:= @Option.rec Nat (λ_=>Out) (.fail "") (λc=>aky h (oo E c h.hp.get h.nx aa)) (rM k E.rK)
def Ht (E:Env) (rec:j7->Out) (k:Nat) (fn:Option Func) (aa:aM) (h:Hs):Out:= @Option.rec Func (λ_=>Out) (Dg E k aa h) (λfn=>acI E rec k fn aa h) fn
def Bg (k:Nat):List (Nat×SV)->dJ
 | []=>none
 |p::l=>ay (Nat.beq p.1 k) (some p.2) (Bg k l)
def oX (E:Env) (k:Nat) (aa:aM):dJ:= @List.rec SV (λ_=>dJ) (Bg k E.done) (λ_ _ _=>none) aa
mutual
def akh (τ:Nat->Nat):SV->SV
 | .bool b=>.bool b
 | .int k e=>.int k e
 | .str s=>.str s
 | .ptr a o=>.ptr (τ a) o
 | .il=>.il
 | .sl a o n c=>.sl (τ a) o n c
 | .sle=>.sle
 | .cR=>.cR
 | .mp a=>.mp (τ a)
 | .gL=>.gL
 | .fn f a c=>.fn f (De τ a) (De τ c)
 | .iS=>.iS
 | .agg l=>.agg (De τ l)
 | .cm l=>.cm (De τ l)
 | .undef=>.undef
def De (τ:Nat->Nat):aM->aM
 | []=> []
 |x::l=>akh τ x::De τ l
end
def aki (τ:Nat->Nat):jh->jh
 | []=> []
 |e::l=>(akh τ e.1,akh τ e.2.1,e.2.2)::aki τ l
def renO (τ:Nat->Nat):SO->SO
 | .cells e cs=>.cells e (De τ cs)
 | .map es c=>.map (aki τ es) c
 |o=>o
def aDw:SO->Bool
 | .cells _ _=>true
 | .map _ _=>true
 |_=>false
mutual
def avj:SV->SV->List (Nat×Nat)
 | .ptr a _,.ptr b _=> [(a,b)]
 | .sl a _ _ _,.sl b _ _ _=> [(a,b)]
 | .mp a,.mp b=> [(a,b)]
 | .fn _ a c,.fn _ a' c'=>Ms a a'++Ms c c'
 | .agg l,.agg l'=>Ms l l'
 | .cm l,.cm l'=>Ms l l'
 |_,_=> []
def Ms:aM->aM->List (Nat×Nat)
 |x::l,y::m=>avj x y++Ms l m
 |_,_=> []
end
def axW:jh->jh->List (Nat×Nat)
 |x::l,y::m=>avj x.1 y.1++(avj x.2.1 y.2.1++axW l m)
 |_,_=> []
def o9:SO->Option SO->List (Nat×Nat)
 | .cells _ cs,some (.cells _ cs')=>Ms cs cs'
 | .map es _,some (.map Ac _)=>axW es Ac
 |_,_=> []
def fnK (E:Env) (rec:j7->Out) (f:Fn) (aa:aM) (h:Hs):Out:=
 match f with
 | .func k=> @Option.rec SV (λ_=>Out) (Ht E rec k (E.fn.get k) aa h) (λv=>.res v h) (oX E k aa)
 |_=>.fail ""
def aya (x:SV):Env->(j7->Out)->aM->Hs->Out:=match x with
 | .fn f first jk=>λE rec aa h=>fnK E rec f (first++aa++jk) h
 |_=>λ_ _ _ _=>.fail ""
def step (E:Env) (rec:j7->Out) (j:j7):Out:=
 @j7.rec (λ_=>Out) (λnt c tm mk h=>axX c E rec nt tm mk h) (λnt all l tm mk h=>agP E rec nt all l tm mk h) (λnt W all base i M prev l tm h=>YQ E rec nt W all base i M prev l tm h) (λf aa h=>aya f E rec aa h) j
def run (E:Env) (n:Nat):j7->Out:= @Nat.rec (λ_=>j7->Out) (λ_=>.fail "") (λ_ ih j=>step E ih j) n
end Go.bQ
namespace Go.bQ
open Go.RowKit
variable {Y γ O:Type} {b c nt o n i off k l new M:Nat} {x ox:Operand} {r neg:Bool} {z v u u1:Value} {a:Act} {w':World} {e t src tx ty:TypeId} {p:ByteArray×Nat} {s:ByteArray} {q fz:Nat×Nat} {ob:Obj} {parts:Array (Nat×Value)} {it:TypeInfo} {kl kk:IntKind} {lo:Option Operand} {base:Option Addr}
section
variable {δ:Type} {w:World}
def bk (b:Bool) (x y:Y):ay b x y=if b=true then x else y:=by cases b<;>rfl
def aJ {b:Bool} {x:Option Y} {r:Y} (h:ay b x none=some r):b=true/\x=some r:=by
 cases b
 ·simp[ay] at h
 ·exact ⟨rfl,h⟩
def aj {x:Option Y} {f:Y->Option γ} {r:γ} (h:au x f=some r):∃a,x=some a/\f a=some r:=by
 cases x with
 |none=>cases h
 |some a=>exact ⟨a,rfl,h⟩
def bc {x:Option Y} {y:Option O} {f:Y->O->Option γ} {r:γ} (h:bE x y f=some r):∃a b,x=some a/\y=some b/\f a b=some r:=by
 cases x with
 |none=>cases h
 |some a=>
  cases y with
  |none=>cases h
  |some b=>exact ⟨a,b,rfl,rfl,h⟩
def qs {x:Option Y} {y:Option O} {z:Option δ} {f:Y->O->δ->Option γ} {r:γ} (h:uI x y z f=some r):∃a b c,x=some a/\y=some b/\z=some c/\f a b c=some r:=by
 let ⟨a,ha,h⟩:=aj h;let ⟨b,c,hb,hc,h⟩:=bc h;exact ⟨a,b,c,ha,hb,hc,h⟩
def beq_iff (a b:Nat):Nat.beq a b=true↔a=b:=⟨Nat.eq_of_beq_eq_true,λh=>by subst h;exact Nat.beq_refl a⟩
def beq_eq (a b:Nat):Nat.beq a b=decide (a=b):=by
 rw[lG,beq_iff];simp
def cN (a b:Nat):Nat.ble a b=true↔a<=b:=by rw[Nat.ble_eq]
def ble_eq (a b:Nat):Nat.ble a b=decide (a<=b):=by
 rw[lG,cN];simp
def Tr.get_nil (i:Nat):(Tr.nil:Tr Y).get i=none:=rfl
def Tr.Co (l r:Tr Y) (v:Option Y) (i:Nat):(Tr.node l v r).get i=if i=0 then v else if i % 2=1 then l.get (i / 2) else r.get (i / 2-1):=by
 show ay (Nat.beq i 0) v (ay (Nat.beq (Nat.mod i 2) 1) (l.get (Nat.div i 2)) (r.get (Nat.sub (Nat.div i 2) 1)))=_;rw[bk,bk,beq_eq,beq_eq];simp only[lI];rfl
def Tr.left {Y:Type}:Tr Y->Tr Y
 | .nil=>.nil
 | .node l _ _=>l
def Tr.right {Y:Type}:Tr Y->Tr Y
 | .nil=>.nil
 | .node _ _ r=>r
def Tr.val {Y:Type}:Tr Y->Option Y
 | .nil=>none
 | .node _ v _=>v
def Tr.J7 (t:Tr Y) (i:Nat):t.get i=if i=0 then t.val else if i % 2=1 then t.left.get (i / 2) else t.right.get (i / 2-1):=by
 cases t with
 |nil=>simp[Tr.val,Tr.left,Tr.right,Tr.get_nil]
 |node l v r=>rw[Tr.Co];rfl
def Tr.aoy (n:Nat) (t:Tr Y) (i:Nat) (x:Option Y):Tr.Ja (n+1) t i x=
  if i=0 then .node t.left x t.right else if i % 2=1 then .node (Tr.Ja n t.left (i / 2) x) t.val t.right else .node t.left t.val (Tr.Ja n t.right (i / 2-1) x):=by
 have e:Tr.Ja (n+1) t i x=ay (Nat.beq i 0) (Tr.node t.left x t.right) (ay (Nat.beq (Nat.mod i 2) 1) (.node (Tr.Ja n t.left (Nat.div i 2) x) t.val t.right) (.node t.left t.val (Tr.Ja n t.right (Nat.sub (Nat.div i 2) 1) x))):=by
  cases t<;>rfl
 rw[e,bk,bk,beq_eq,beq_eq];simp only[lI];rfl
def Tr.N7 {Y:Type}:∀(n:Nat) (t:Tr Y) (i j:Nat) (x:Option Y),i<n->(Tr.Ja n t i x).get j=if j=i then x else t.get j
 |0,_,_,_,_,h=>by omega
 |n+1,t,i,j,x,h=>by
  rw[Tr.aoy];by_cases h0:i=0
  ·subst h0;rw[ax rfl,Tr.Co];by_cases hj:j=0
   ·simp[hj]
   ·rw[aA hj,aA hj,Tr.J7 t j,aA hj]
  ·rw[aA h0];by_cases h1:i % 2=1
   ·rw[ax h1,Tr.Co,Tr.J7 t j];by_cases hj:j=0
    ·subst hj;rw[ax rfl,ax rfl,aA (by omega)]
    ·rw[aA hj,aA hj];by_cases hj1:j % 2=1
     ·rw[ax hj1,ax hj1,Tr.N7 n _ _ _ _ (by omega)]
      by_cases e:j=i
      ·rw[ax e,ax (by omega)]
      ·rw[aA e,aA (by omega)]
     ·rw[aA hj1,aA hj1,aA (by omega)]
   ·rw[aA h1,Tr.Co,Tr.J7 t j];by_cases hj:j=0
    ·subst hj;rw[ax rfl,ax rfl,aA (by omega)]
    ·rw[aA hj,aA hj];by_cases hj1:j % 2=1
     ·rw[ax hj1,ax hj1,aA (by omega)]
     ·rw[aA hj1,aA hj1,Tr.N7 n _ _ _ _ (by omega)]
      by_cases e:j=i
      ·rw[ax e,ax (by omega)]
      ·rw[aA e,aA (by omega)]
def Tr.iU (t:Tr Y) (i j:Nat) (x:Option Y):(t.set i x).get j=if j=i then x else t.get j:=Tr.N7 (i+1) t i j x (by omega)
structure Gh where
 η:Nat->Int
 sz:TypeId->Nat
 Z:Nat->Option (Nat×Nat)
 lim:Nat->Nat
 et:Nat->TypeId
 wb:Nat->Option Obj
structure Gh.le (g g':Gh):Prop where
 η:g'.η=g.η
 sz:g'.sz=g.sz
 Z:∀id p,g.Z id=some p->g'.Z id=some p
 lim:∀id p,g.Z id=some p->g'.lim id=g.lim id
 et:∀id p,g.Z id=some p->g'.et id=g.et id
 wb:g'.wb=g.wb
def Gh.le.refl (g:Gh):g.le g:=⟨rfl,rfl,λ_ _ h=>h,λ_ _ _=>rfl,λ_ _ _=>rfl,rfl⟩
def Gh.le.trans {a b c:Gh} (h:a.le b) (k:b.le c):a.le c:=
 ⟨k.η.trans h.η,k.sz.trans h.sz,λid p q=>k.Z id p (h.Z id p q),λid p q=>(k.lim id p (h.Z id p q)).trans (h.lim id p q),λid p q=>(k.et id p (h.Z id p q)).trans (h.et id p q),k.wb.trans h.wb⟩
mutual
inductive VR (g:Gh):Value->SV->Prop
 |bool (b:_):VR g (.bool b) (.bool b)
 |int (k e:_) {n:Int} (h:n=e.ev g.η):VR g (.int k n) (.int k e)
 |str (s:_):VR g (.string s) (.str s)
 |ptr {id off b o:_} (h:g.Z id=some (b,o)):VR g (.pointer (some ⟨b,o+off,none⟩)) (.ptr id off)
 |il:VR g (.pointer none) .il
 |sl {id off n b o c:_} {cap:Cp} (h:g.Z id=some (b,o)) (hn:n<=c) (hc:∀m,cap= .k m->c=m) (hl:∀e,cap= .u e->g.et id=e/\off+c*g.sz e<=g.lim id):VR g (.slice (some ⟨b,o+off,none⟩) n c) (.sl id off n cap)
 |sle {a c:_}:VR g (.slice a 0 c) .sle
 |cR:VR g (.slice none 0 0) .cR
 |mp {id b o:_} (h:g.Z id=some (b,o)):VR g (.map (some b)) (.mp id)
 |gL:VR g (.map none) .gL
 |fn {f:FuncId} {first jk:hY} {fs cs:aM} (h1:kH g first.toList fs) (h2:kH g jk.toList cs):VR g (.func (.func f) first jk) (.fn (.func f) fs cs)
 |iS:VR g .nilFunc .iS
 |agg {vs:hY} {cs:_} (h:gF g vs.toList cs):VR g (.agg vs) (.agg cs)
 |cm {vs:hY} {cs:_} (h:kH g vs.toList cs):VR g (.tuple vs) (.cm cs)
 |undef (v:_):VR g v .undef
inductive kH (g:Gh):eH->aM->Prop
 |nil:kH g [] []
 |cons {v x vs xs:_} (h:VR g v x) (ht:kH g vs xs):kH g (v::vs) (x::xs)
inductive gF (g:Gh):eH->aM->Prop
 |nil:gF g [] []
 |cons {v x vs xs:_} (h1:v.oneCell'=true) (h:VR g v x) (ht:gF g vs xs):gF g (v::vs) (x::xs)
end
mutual
def VR.mono {g g':Gh} (hle:g.le g'):∀{v x},VR g v x->VR g' v x
 |_,_,.bool b=>.bool b
 |_,_,.int k e h=>.int k e (by rw[hle.η];exact h)
 |_,_,.str s=>.str s
 |_,_,.ptr h=>.ptr (hle.Z _ _ h)
 |_,_,.il=>.il
 |_,_,.sl h hn hc hl=>.sl (hle.Z _ _ h) hn hc (λe he=>by rw[hle.sz,hle.et _ _ h,hle.lim _ _ h];exact hl e he)
 |_,_,.sle=>.sle
 |_,_,.cR=>.cR
 |_,_,.mp h=>.mp (hle.Z _ _ h)
 |_,_,.gL=>.gL
 |_,_,.fn h1 h2=>.fn (h1.mono hle) (h2.mono hle)
 |_,_,.iS=>.iS
 |_,_,.agg h=>.agg (h.mono hle)
 |_,_,.cm h=>.cm (h.mono hle)
 |_,_,.undef v=>.undef v
def kH.mono {g g':Gh} (hle:g.le g'):∀{v x},kH g v x->kH g' v x
 |_,_,.nil=>.nil
 |_,_,.cons h ht=>.cons (h.mono hle) (ht.mono hle)
def gF.mono {g g':Gh} (hle:g.le g'):∀{v x},gF g v x->gF g' v x
 |_,_,.nil=>.nil
 |_,_,.cons h1 h ht=>.cons h1 (h.mono hle) (ht.mono hle)
end
variable {g:Gh} {P:Program}
def gF.length:∀{vs:eH} {cs:aM},gF g vs cs->vs.length=cs.length
 |_,_,.nil=>rfl
 |_,_,.cons _ _ ht=>by simp[ht.length]
def kH.length:∀{vs:eH} {cs:aM},kH g vs cs->vs.length=cs.length
 |_,_,.nil=>rfl
 |_,_,.cons _ ht=>by simp[ht.length]
def gF.get:∀{vs:eH} {cs:aM},gF g vs cs->∀{j:Nat} {x:SV},cs[j]? =some x->∃v,vs[j]? =some v/\v.oneCell'=true/\VR g v x
 |_,_,.nil,_,_,h=>by simp at h
 |_,_,.cons h1 hd ht,j,x,h=>by
  cases j with
  |zero=>simp at h;subst h;exact ⟨_,rfl,h1,hd⟩
  |succ j=>simp at h;let ⟨v,a,b,c⟩:=ht.get h;exact ⟨v,by simpa using a,b,c⟩
def kH.get:∀{vs:eH} {cs:aM},kH g vs cs->∀{j:Nat} {x:SV},cs[j]? =some x->∃v,vs[j]? =some v/\VR g v x
 |_,_,.nil,_,_,h=>by simp at h
 |_,_,.cons hd ht,j,x,h=>by
  cases j with
  |zero=>simp at h;subst h;exact ⟨_,rfl,hd⟩
  |succ j=>simp at h;let ⟨v,a,c⟩:=ht.get h;exact ⟨v,by simpa using a,c⟩
def gF.append:∀{vs us:eH} {cs ds:aM},gF g vs cs->gF g us ds->gF g (vs++us) (cs++ds)
 |_,_,_,_,.nil,k=>k
 |_,_,_,_,.cons h1 hd ht,k=>.cons h1 hd (ht.append k)
def kH.append:∀{vs us:eH} {cs ds:aM},kH g vs cs->kH g us ds->kH g (vs++us) (cs++ds)
 |_,_,_,_,.nil,k=>k
 |_,_,_,_,.cons hd ht,k=>.cons hd (ht.append k)
def gF.drop:∀{vs:eH} {cs:aM} (n:Nat),gF g vs cs->gF g (vs.drop n) (cs.drop n)
 |_,_,0,h=>h
 |_,_,n+1,.nil=>by simpa using .nil
 |_,_,n+1,.cons _ _ ht=>by simpa using ht.drop n
def gF.take:∀{vs:eH} {cs:aM} (n:Nat),gF g vs cs->gF g (vs.take n) (cs.take n)
 |_,_,0,_=>by simpa using .nil
 |_,_,n+1,.nil=>by simpa using .nil
 |_,_,n+1,.cons h1 hd ht=>by simpa using .cons h1 hd (ht.take n)
def gF.one:∀{vs:eH} {cs:aM},gF g vs cs->∀v∈vs,v.oneCell'=true
 |_,_,.nil,v,hv=>by simp at hv
 |_,_,.cons h1 _ ht,v,hv=>by
  rcases bB.1 hv with rfl|hv
  ·exact h1
  ·exact ht.one v hv
def gF.mk:∀{vs:eH} {cs:aM},vs.length=cs.length->(∀(j:Nat) (v:Value) (x:SV),vs[j]? =some v->cs[j]? =some x->v.oneCell'=true/\VR g v x)->gF g vs cs
 | [],[],_,_=>.nil
 |v::vs,x::xs,hl,h=>by
  let ⟨a,b⟩:=h 0 v x rfl rfl;exact .cons a b (gF.mk (by simpa using hl) λj v x hv hx=>h (j+1) v x (by simpa using hv) (by simpa using hx))
 | [],_::_,hl,_=>by simp at hl
 |_::_,[],hl,_=>by simp at hl
structure Cells (g:Gh) (w:World) (id b o:Nat) (e:TypeId) (cs:aM):Prop where
 mem:∃cur:hY,w.heap[b]? =some (.cells cur e (0,0))/\o+g.lim id<=cur.size/\∃vs,gF g vs cs/\∀j v,vs[j]? =some v->cur[o+j]? =some v
 et:g.et id=e
def ann (g:Gh) (m:MapEntry) (x:SV×SV×Nat):Prop:=VR g m.key x.1/\VR g m.val x.2.1/\m.born=x.2.2
inductive iC (g:Gh):List MapEntry->jh->Prop
 |nil:iC g [] []
 |cons {m x ms xs:_} (h:ann g m x) (ht:iC g ms xs):iC g (m::ms) (x::xs)
def iC.mono {g g':Gh} (hle:g.le g'):∀{ms:List MapEntry} {xs:jh},iC g ms xs->iC g' ms xs
 |_,_,.nil=>.nil
 |_,_,.cons h ht=>.cons ⟨h.1.mono hle,h.2.1.mono hle,h.2.2⟩ (ht.mono hle)
structure FR (g:Gh) (nt:Nat) (tm:Tf) (tmps:hY):Prop where
 sz:tmps.size=nt
 tm:∀t x,tm t=some x->VR g (tmps.getD t undef) x
def FR.mono {g g':Gh} (hle:g.le g') {tm:Tf} {tmps:hY} (h:FR g nt tm tmps):FR g' nt tm tmps:=⟨h.sz,λt x hx=>(h.tm t x hx).mono hle⟩
def OR (g:Gh) (w:World) (id b o:Nat):SO->Prop
 | .cells e cs=>Cells g w id b o e cs
 | .map es c=>∃ms,w.heap[b]? =some (.map ms c)/\iC g ms.toList es
 | .pL s pos=>o=0/\w.heap[b]? =some (.stringIter s pos)
 | .mapIter mp since seen last=>o=0/\∃(bm:da) (sa:Array Nat),w.heap[b]? =some (.mapIter bm since sa last)/\sa.toList=seen/\(match mp with|none=>bm=none|some m=>∃x y,bm=some x/\g.Z m=some (x,y))
 | .dfr=>w.heap[b]? =some (.deferred (some []))
 | .ro cs=>∃(cur:hY) (e:TypeId) (fz:Nat×Nat),w.heap[b]? =some (.cells cur e fz)/\g.wb b=some (.cells cur e fz)/\∀j x,cs[j]? =some x->∃v,cur[o+j]? =some v/\(Iv x=false->v.oneCell'=true/\VR g v x)
def Cells.mono {g g':Gh} (hle:g.le g') {id:Nat} {cs:aM} (hρ:g.Z id=some (b,o)) (h:Cells g w id b o e cs) (hw:w'.heap[b]? =w.heap[b]?):Cells g' w' id b o e cs:=by
 let ⟨⟨cur,h1,h0,vs,h2,h3⟩,h4⟩:=h;exact ⟨⟨cur,hw.trans h1,by rw[hle.lim _ _ hρ];exact h0,vs,h2.mono hle,h3⟩,(hle.et _ _ hρ).trans h4⟩
def OR.mono {g g':Gh} (hle:g.le g') {id:Nat} {x:SO} (hρ:g.Z id=some (b,o)) (h:OR g w id b o x) (hw:w'.heap[b]? =w.heap[b]?):OR g' w' id b o x:=by
 cases x with
 |cells e cs=>exact Cells.mono hle hρ h hw
 |map es c=>let ⟨ms,h1,h2⟩:=h;exact ⟨ms,hw.trans h1,h2.mono hle⟩
 |pL s pos=>exact ⟨h.1,hw.trans h.2⟩
 |mapIter mp since seen last=>
  let ⟨h0,bm,sa,h1,h2,h3⟩:=h;refine ⟨h0,bm,sa,hw.trans h1,h2,?_⟩;cases mp with
  |none=>exact h3
  |some m=>let ⟨x,y,e1,e2⟩:=h3;exact ⟨x,y,e1,hle.Z _ _ e2⟩
 |dfr=>exact hw.trans h
 |ro cs=>
  let ⟨cur,e,fz,h1,h0,h2⟩:=h;refine ⟨cur,e,fz,hw.trans h1,(congrFun hle.wb b).trans h0,λj x hx=> ?_⟩
  let ⟨v,a,b⟩:=h2 j x hx;exact ⟨v,a,λhu=>⟨(b hu).1,(b hu).2.mono hle⟩⟩
structure HR (g:Gh) (hp:Hf) (w:World):Prop where
 ob:∀id o,hp id=some o->∃b c,g.Z id=some (b,c)/\b<w.heap.size/\OR g w id b c o
 inj:∀i j x y b c d,hp i=some x->hp j=some y->g.Z i=some (b,c)->g.Z j=some (b,d)->i=j
def amP (g:Gh) (hp:Hf) (b:Nat):Prop:=∃id o c,hp id=some o/\g.Z id=some (b,c)
structure Fr (g:Gh) (hp:Hf) (w:World) (g':Gh) (gy:Hf) (w':World):Prop where
 os:w'.os=w.os
 tape:w'.tape=w.tape
 output:w'.output=w.output
 size:w.heap.size<=w'.heap.size
 le:g.le g'
 old:∀b,b<w.heap.size->¬amP g hp b->w'.heap[b]? =w.heap[b]?
 own:∀b,b<w.heap.size->amP g' gy b->amP g hp b
def Fr.refl (g:Gh) (hp:Hf) (w:World):Fr g hp w g hp w:=⟨rfl,rfl,rfl,cF _,.refl _,λ_ _ _=>rfl,λ_ _ h=>h⟩
def Fr.trans {g g1 g2:Gh} {h h1 h2:Hf} {w1 w2:World} (a:Fr g h w g1 h1 w1) (b:Fr g1 h1 w1 g2 h2 w2):Fr g h w g2 h2 w2:=
 ⟨b.os.trans a.os,b.tape.trans a.tape,b.output.trans a.output,iL a.size b.size,a.le.trans b.le,
  λk hk hn=>(b.old k (mA hk a.size) (λhm=>hn (a.own k hk hm))).trans (a.old k hk hn),
  λk hk hm=>a.own k hk (b.own k (mA hk a.size) hm)⟩
end
def Dp {e:SI} (h:UA e=some n):e= .lit (.ofNat n):=by
 unfold UA at h;split at h
 ·simp at h;subst h;rfl
 ·simp at h
def uC {x:SV} (h:lq x=some n):∃k,x= .int k (.lit (.ofNat n)):=by
 cases x<;>first|(exact ⟨_,by rw[Dp h]⟩)|cases h
def vz {x:SV} {b:Bool} (h:pa x=some b):x= .bool b:=by cases x<;>cases h<;>rfl
def rS {x:SV} {p:IntKind×SI} (h:intOf x=some p):x= .int p.1 p.2:=by cases x<;>cases h<;>rfl
def mZ {x:SV} (h:strOf x=some s):x= .str s:=by cases x<;>cases h<;>rfl
def om {x:SV} (h:vL x=some q):x= .ptr q.1 q.2:=by cases x<;>cases h<;>rfl
def Bk {x:SV} {cs:aM} (h:HW x=some cs):x= .agg cs:=by cases x<;>cases h<;>rfl
def ajw {x:SV} {cs:aM} (h:OJ x=some cs):x= .cm cs:=by cases x<;>cases h<;>rfl
def VV {x:SV} (h:ati x=some i):x= .mp i:=by cases x<;>cases h<;>rfl
def aox {x:SV} {q:Nat×Nat×Nat×Cp} (h:asE x=some q):x= .sl q.1 q.2.1 q.2.2.1 q.2.2.2:=by cases x<;>cases h<;>rfl
def V1 {x:SV} (h:yJ x=some n):(∃i o c,x= .sl i o n c)\/(x= .cR/\n=0)\/(x= .sle/\n=0):=by
 cases x<;>first|(cases h;exact .inl ⟨_,_,_,rfl⟩)|(cases h;exact .inr (.inl ⟨rfl,rfl⟩))|(cases h;exact .inr (.inr ⟨rfl,rfl⟩))|cases h
def akN {x y:SV} (h:Pq x=some y):y=x/\((∃i o,x= .ptr i o)\/∃f a c,x= .fn f a c):=by
 cases x<;>first|(cases h;exact ⟨rfl,.inl ⟨_,_,rfl⟩⟩)|(cases h;exact ⟨rfl,.inr ⟨_,_,_,rfl⟩⟩)|cases h
def vi {d:UD} (h:p9 d=some e):d= .slice e:=by cases d<;>cases h<;>rfl
def I1 {d:UD} {fs:List FL} (h:yu d=some fs):d= .struct fs:=by cases d<;>cases h<;>rfl
def JC {d:UD} {q:TypeId×TypeId} (h:Ce d=some q):d= .map q.1 q.2:=by cases d<;>cases h<;>rfl
def agw {d:UD} (h:zR d=true):d= .string:=by cases d<;>cases h<;>rfl
def abo {d:UD} (h:Mj d=true):d= .bool:=by cases d<;>cases h<;>rfl
def lh {o:Option SO} {p:TypeId×aM} (h:nE o=some p):o=some (.cells p.1 p.2):=by
 unfold nE at h;split at h
 ·simp at h;subst h;rfl
 ·simp at h
def zL {o:Option SO} {p:jh×Nat} (h:kf o=some p):o=some (.map p.1 p.2):=by
 unfold kf at h;split at h
 ·simp at h;subst h;rfl
 ·simp at h
def PH {o:Option SO} (h:Ds o=some p):o=some (.pL p.1 p.2):=by
 unfold Ds at h;split at h
 ·simp at h;subst h;rfl
 ·simp at h
def nA {a b:IntKind} (h:gu a b=true):a=b:=by
 cases a<;>cases b<;>first|rfl|(simp[gu] at h)
def akY (a:IntKind):gu a a=true:=by cases a<;>rfl
def yM (a b:Int):Ha a b=decide (a=b):=by
 cases a<;>cases b<;>simp[Ha,beq_eq]
 rename_i m n;exact ⟨λh=>by rw[h],λh=>Int.ofNat.inj h⟩
def we (a b:Int):xr a b=decide (a<b):=by
 cases a<;>cases b<;>simp only[xr,ble_eq,Lt]
 ·rename_i m n;simp only[EK];omega
 ·rename_i m n;simp only[eq_comm (a:=false),decide_eq_false_iff_not,EK];omega
 ·rename_i m n;simp only[eq_comm (a:=true),lI,EK];omega
 ·rename_i m n;omega
def SI.eqb_ev (η:Nat->Int):∀{a b:SI},a.eqb b=true->a.ev η=b.ev η
 | .lit a,.lit b,h=>by simpa[SI.eqb,yM,SI.ev] using h
def KN (P:Program) (t:TypeId):UD->Prop
 | .bool=>P.underlying t=some .bool
 | .int k=>P.underlying t=some (.int k)
 | .string=>P.underlying t=some .string
 | .pointer=>∃e,P.underlying t=some (.pointer e)
 | .slice e=>P.underlying t=some (.slice e)
 | .array n e=>P.underlying t=some (.array n e)
 | .map k e=>P.underlying t=some (.map k e)
 | .struct fs=>∃a:Array Field,P.underlying t=some (.struct a)/\a.toList.map (λf=>FL.mk f.type f.offset (decide (f.name≠ "_")))=fs/\∀f∈a.toList,(P.info? f.type).isSome=true
 | .func=>∃a b c,P.underlying t=some (.func a b c)
 | .interface=>∃ms,P.underlying t=some (.interface ms)
 | .other=>False
def acX (agg:Bool) (z:Value) (cs:aM):Prop:=
 (∀g,gF g z.cells.toList cs)/\(agg=true->∃a,z= .agg a)/\(agg=false->z.oneCell'=true)
structure CK (P:Program) (t:TypeId) (i:TI):Prop where
 desc:KN P t i.desc
 info:∃f z,P.info? t=some f/\f.size=i.size/\f.bytes=i.bytes/\f.comparable=i.comparable/\f.zero=some z/\acX (kW i.desc) z i.zero/\(kW i.desc=true->i.zero.length=i.size)
structure dP (E:Env) (g:Gh):Prop where
 ty:∀t i,E.ty.get t=some i->CK E.P t i
 fn:∀f x,E.fn.get f=some x->E.P.funcs[f]? =some x
 lt:∀a b r,(a,b,r)∈E.lt->decide (a.ev g.η<b.ev g.η)=r
 eq:∀a b r,(a,b,r)∈E.eq->decide (a.ev g.η=b.ev g.η)=r
 mix:E.P.follows .mixedOrders=true
 sz:∀t,g.sz t=E.P.cellsOf t
def dP.mono {E:Env} {g g':Gh} (h:dP E g) (hle:g.le g'):dP E g':=
 ⟨h.ty,h.fn,λa b r hm=>by rw[hle.η];exact h.lt a b r hm,λa b r hm=>by rw[hle.η];exact h.eq a b r hm,h.mix,λt=>by rw[hle.sz];exact h.sz t⟩
def dP.size {E:Env} {g:Gh} (h:dP E g) {i:TI} (hi:E.ty.get t=some i):g.sz t=i.size:=by
 let ⟨f,z,h1,h2,_⟩:=(h.ty t i hi).info;rw[h.sz,Program.cellsOf,h1];simpa using h2
def yH {E:Env} {g:Gh} (hE:dP E g) {a b:SI} (h:Dq E a b=some r):decide (a.ev g.η<b.ev g.η)=r:=by
 unfold Dq at h;split at h
 ·simp at h;subst h;rw[we];rfl
def N9 {E:Env} {g:Gh} (hE:dP E g) {a b:SI} (h:eqI E a b=some r):decide (a.ev g.η=b.ev g.η)=r:=by
 unfold eqI at h;split at h
 ·simp at h;subst h;rw[yM];rfl
def Qo:∀(a b:List UInt8),sC a b=decide (a=b)
 | [],[]=>by simp[sC]
 | [],_::_=>by simp[sC]
 |_::_,[]=>by simp[sC]
 |a::l,b::m=>by
  rw[sC,Qo l m,beq_eq,lG];simp only[aY,lI,Ly];rw[<-UInt8.toNat_inj]
def wI (a b:ByteArray):Ee a b=decide (a=b):=by
 unfold Ee;rw[Qo,Lt];constructor
 ·intro h;cases a with|mk a=>cases b with|mk b=>simp at h;simp[h]
 ·intro h;rw[h]
def BY {Y:Type} {P:Program}:∀{s:Sem Y} {a:Y},nK P s=some a->∀w,s.run P w= .ok a w
 | .pure a,_,h,w=>by simp[nK] at h;subst h;rfl
 | .program k,a,h,w=>BY (s:=k P) h w
 | .load ..,_,h,_| .store ..,_,h,_| .new ..,_,h,_| .shape ..,_,h,_| .freeze ..,_,h,_| .frozen ..,_,h,_| .getObj ..,_,h,_| .setObj ..,_,h,_| .choose ..,_,h,_| .sys ..,_,h,_| .mark ..,_,h,_| .halt _,_,h,_=>by simp[nK] at h
mutual
def xF (g:Gh):∀(v:Value),VR g v (uF v)
 | .bool b=>.bool b
 | .int k n=>.int k _ rfl
 | .string s=>.str s
 | .pointer none=>.il
 | .pointer (some _)=>.undef _
 | .slice none 0 0=>.cR
 | .slice none 0 (_+1)=>.undef _
 | .slice none (_+1) _=>.undef _
 | .slice (some _) _ _=>.undef _
 | .map none=>.gL
 | .map (some _)=>.undef _
 | .nilFunc=>.iS
 | .agg ⟨cs⟩=>by
  unfold uF;rw[bk];split
  ·rename_i hc;refine .agg ?_;have hr:=Ev g cs;refine gF.mk hr.length λj v x hv hx=> ?_
   let ⟨u,hu,hd⟩:=hr.get hx;have hv:cs[j]? =some v:=hv;rw[hv] at hu;obtain rfl:v=u:=by simpa using hu
   exact ⟨dV.1 hc v (cX hv),hd⟩
  ·exact .undef _
 | .tuple ⟨cs⟩=>.cm (Ev g cs)
 | .float _ _| .complex _ _ _| .chan _| .func _ _ _| .iface _ _| .nilIface=>.undef _
def Ev (g:Gh):∀(vs:eH),kH g vs (oZ vs)
 | []=>.nil
 |v::vs=>.cons (xF g v) (Ev g vs)
end
section
variable {E:Env} {g:Gh} {w:World}
variable {P:Program}
def A1 {i:TI} (h:CK P t i) (w:World):(isAgg t).run P w= .ok (kW i.desc) w:=by
 have hd:=h.desc;generalize i.desc=d at hd;cases d<;>simp only[KN] at hd
 case pointer=>let ⟨e,he⟩:=hd;simp only[isAgg,Sem.run_bind,run_underlying he,Result.andThen_ok];rfl
 case struct=>let ⟨e,he,_⟩:=hd;simp only[isAgg,Sem.run_bind,run_underlying he,Result.andThen_ok];rfl
 case func=>let ⟨_,_,_,he⟩:=hd;simp only[isAgg,Sem.run_bind,run_underlying he,Result.andThen_ok];rfl
 case interface=>let ⟨e,he⟩:=hd;simp only[isAgg,Sem.run_bind,run_underlying he,Result.andThen_ok];rfl
 all_goals (simp only[isAgg,Sem.run_bind,run_underlying hd,Result.andThen_ok];rfl)
def oL {i:TI} (h:CK P t i) (w:World):(sizeOf t).run P w= .ok i.size w:=by
 let ⟨f,z,h1,h2,_⟩:=h.info;simp[sizeOf,typeInfo,h1,h2]
def Z9 {i:TI} (h:CK P t i):∃z,(∀w,(zeroValue t).run P w= .ok z w)/\acX (kW i.desc) z i.zero/\(kW i.desc=true->i.zero.length=i.size):=by
 let ⟨f,z,h1,_,_,_,h5,h6⟩:=h.info;exact ⟨z,λw=>by simp[zeroValue,typeInfo,h1,h5],h6⟩
def A5 {i:TI} (hi:CK P t i) {cs:aM} {x:SV} {vs:hY} (h:ia i cs off=some x) (hc:gF g vs.toList cs) (w:World):
  ∃v,(part t vs off).run P w= .ok v w/\VR g v x:=by
 unfold ia at h;rw[bk] at h;split at h
 ·rename_i ha;let ⟨hl,h⟩:=aJ h;simp at h;subst h;refine ⟨.agg (vs.extract off (off+i.size)),?_,.agg ?_⟩
  ·simp only[part,Sem.run_bind,A1 hi,Result.andThen_ok,ha,aF,oL hi,Sem.run_pure]
  ·have:(vs.extract off (off+i.size)).toList=(vs.toList.drop off).take i.size:=by simp[List.extract_eq_take_drop]
   rw[this];exact (hc.drop off).take _
 ·rename_i ha;let ⟨v,hv,_,hd⟩:=hc.get h;refine ⟨v,?_,hd⟩;have qJ:vs[off]? =some v:=by simpa using hv
  have ha:kW i.desc=false:=by simpa using ha
  simp only[part,Sem.run_bind,A1 hi,Result.andThen_ok,ha,aK,aG,qJ,Sem.run_pure]
def akB {i:TI} (hz:acX (kW i.desc) z i.zero) (hl:kW i.desc=true->i.zero.length=i.size) {x:SV} (h:ia i i.zero 0=some x):VR g z x:=by
 unfold ia at h;rw[bk] at h;let ⟨h1,h2,h3⟩:=hz;split at h
 ·rename_i ha;let ⟨_,h⟩:=aJ h;simp at h;subst h;obtain ⟨a,rfl⟩:=h2 ha;rw[<-hl ha,vf];exact .agg (h1 g)
 ·rename_i ha;have ho:=h3 (by simpa using ha)
  let ⟨v,hv,_,hd⟩:=(h1 g).get h;have:z.cells= #[z]:=by cases z<;>first|rfl|(simp[Value.oneCell'] at ho)
  rw[this] at hv;simp at hv;subst hv;exact hd
def VR.gP {x:SV} {cs:aM} (h:VR g v x) (hx:x.cells=some cs):gF g v.cells.toList cs:=by
 cases h with
 |agg h=>cases hx;exact h
 |cm h=>cases hx
 |undef v=>cases hx
 |bool b=>cases hx;exact .cons rfl (.bool b) .nil
 |int k e h=>cases hx;exact .cons rfl (.int k e h) .nil
 |str s=>cases hx;exact .cons rfl (.str s) .nil
 |ptr h=>cases hx;exact .cons rfl (.ptr h) .nil
 |il=>cases hx;exact .cons rfl .il .nil
 |sl a b c d=>cases hx;exact .cons rfl (.sl a b c d) .nil
 |sle=>cases hx;exact .cons rfl .sle .nil
 |cR=>cases hx;exact .cons rfl .cR .nil
 |mp h=>cases hx;exact .cons rfl (.mp h) .nil
 |gL=>cases hx;exact .cons rfl .gL .nil
 |fn a b=>cases hx;exact .cons rfl (.fn a b) .nil
 |iS=>cases hx;exact .cons rfl .iS .nil
def pY {tm:Tf} (h:FR g nt tm a.tmps) {v:SV} (hv:bU tm x=some v):VR g (a.eval x) v:=by
 cases x with
 |tmp t=>exact h.tm t v hv
 |const u=>cases hv;exact xF g u
 |global _=>cases hv
 |func f=>cases hv;exact .fn .nil .nil
def zp {nt:Nat} {tm:Tf} {a:Act} (h:FR g nt tm a.tmps):∀{xs:List Operand} {vs:aM},eI tm xs=some vs->kH g (xs.map a.eval) vs
 | [],_,hv=>by cases hv;exact .nil
 |x::xs,vs,hv=>by
  let ⟨v,l,h1,h2,h3⟩:=bc hv;cases h3;exact .cons (pY h h1) (zp h h2)
def acV {r k:Option Bool} {b:Bool} (h:andThen r k=some b):(r=some true/\k=some b)\/(r=some false/\b=false):=by
 cases r with
 |none=>simp[andThen] at h
 |some c=>cases c<;>simp[andThen] at h<;>simp[h]
def Wf {E:Env} (hE:dP E g) {eq:TypeId->SV->SV->Option Bool} {m:Nat} (heq:∀(t:TypeId) (x y:SV) (b:Bool),eq t x y=some b->∀(u v:Value),VR g u x->VR g v y->∀w,(Op.equalIn m t u v).run E.P w= .ok b w)
  {us vs:hY} {xs ys:aM} (hx:gF g us.toList xs) (hy:gF g vs.toList ys):∀(l:List Field) (b:Bool),HD E eq xs ys (l.map λf=>FL.mk f.type f.offset (decide (f.name≠ "_")))=some b->∀w,(Op.eqFields m us vs l).run E.P w= .ok b w
 | [],b,h,w=>by cases h;simp[Op.eqFields]
 |f::l,b,h,w=>by
  simp only[fM,HD] at h;let ⟨hn,h⟩:=aJ h;let ⟨i,hi,h⟩:=aj h;let ⟨x,y,hpx,hpy,h⟩:=bc h;have PZ:f.name≠ "_" :=by simpa using hn
  let ⟨v1,JQ,ye⟩:=A5 (hE.ty _ _ hi) hpx hx w;let ⟨v2,hr2,hd2⟩:=A5 (hE.ty _ _ hi) hpy hy w;rcases acV h with ⟨h1,h2⟩|⟨h1,rfl⟩
  ·have he:=heq _ _ _ _ h1 v1 v2 ye hd2 w;simp only[Op.eqFields,ax PZ,Sem.run_bind,JQ,hr2,he,Result.andThen_ok,Sem.run_ite,Sem.run_pure];simpa using Wf hE heq hx hy l b h2 w
  ·have he:=heq _ _ _ _ h1 v1 v2 ye hd2 w;simp only[Op.eqFields,ax PZ,Sem.run_bind,JQ,hr2,he,Result.andThen_ok,Sem.run_ite,Sem.run_pure];simp
def acm {E:Env} (hE:dP E g):∀(n:Nat) (t:TypeId) (x y:SV) (b:Bool),eqT E n t x y=some b->∀(u v:Value),VR g u x->VR g v y->∀(d:Nat) (w:World),(Op.equalIn (n+d) t u v).run E.P w= .ok b w
 |0,_,_,_,_,h=>by cases h
 |n+1,t,x,y,b,h=>by
  intro u v hu hv d w;have yc:n+1+d=(n+d)+1:=by omega
  rw[yc];let ⟨i,hi,h⟩:=aj (show au (E.ty.get t) (λi=>eqD i.desc E (eqT E n) t x y)=some b from h)
  have hT:=hE.ty t i hi;have hd:=hT.desc;generalize i.desc=D at hd h;cases D with
  |bool=>
   let ⟨p,q,h1,h2,h3⟩:=bc (show bE (pa x) (pa y) _=some b from h);obtain rfl:=vz h1;obtain rfl:=vz h2;cases hu;cases hv;cases h3;exact run_equalIn_bool' w _ t _ _ hd
  |int k=>
   let ⟨p,q,h1,h2,h3⟩:=bc (show bE (intOf x) (intOf y) _=some b from h);let ⟨hk,h3⟩:=aJ h3;obtain rfl:=rS h1;obtain rfl:=rS h2;have hk:=nA hk;have hb:=N9 hE h3;cases hu with|int _ _ e1=>cases hv with|int _ _ e2=>
   rw[hk,run_equalIn_int w _ t _ _ _ _ hd,e1,e2,<-hb];congr 1
  |string=>
   let ⟨p,q,h1,h2,h3⟩:=bc (show bE (strOf x) (strOf y) _=some b from h);obtain rfl:=mZ h1;obtain rfl:=mZ h2;cases hu;cases hv;cases h3;rw[run_equalIn_string w _ t _ _ hd,wI];congr 1;rw[ByteArray.toList_eq,ByteArray.toList_eq,lG];simp only[wE,lI];constructor
   ·intro h;cases p with|mk a=>cases q with|mk c=>simp at h;simp[h]
   ·intro h;rw[h]
  |pointer=>
   let ⟨e,hd⟩:=hd;have h:XJ x y=some b:=h;unfold XJ at h;split at h<;>first|(cases hu;cases hv;cases h;simp[Op.equalIn,run_underlying hd];done)|(simp at h)
  |slice e=>
   have h:N8 x y=some b:=h;unfold N8 at h;split at h<;>first|(cases hu;cases hv;cases h;simp[Op.equalIn,run_underlying hd];done)|(simp at h)
  |array _ _=>cases h
  |map _ _=>
   have h:XK x y=some b:=h;unfold XK at h;split at h<;>first|(cases hu;cases hv;cases h;simp[Op.equalIn,run_underlying hd];done)|(simp at h)
  |struct fs=>
   let ⟨a,hd,FC,_⟩:=hd;let ⟨p,h1,h2⟩:=aj (show au (arG x y) _=some b from h);let ⟨xs,ys,h3,h4,h5⟩:=bc h1;cases h5;obtain rfl:=Bk h3;obtain rfl:=Bk h4;rw[bk] at h2;split at h2
   ·simp at h2
   ·rename_i hp;have hp:E.P.stoodInHeld t=false:=by simpa using hp
    cases hu with|agg hx=>cases hv with|agg hy=>
    have hf:E.P.fieldsOf t=a:=by simp[Program.fieldsOf,hd]
    rw[run_equalIn_struct w _ t _ _ (by rw[hf];exact hd) hp,hf]
    subst FC;exact Wf hE (λt x y b h u v hu hv w=>acm hE n t x y b h u v hu hv d w) hx hy a.toList b h2 w
  |func=>
   let ⟨_,_,_,hd⟩:=hd;have h:amb x y=some b:=h;unfold amb at h;split at h<;>first|(cases hu;cases hv;cases h;simp[Op.equalIn,run_underlying hd];done)|(simp at h)
  |interface=>cases (show none=some b from h)
  |other=>exact hd.elim
end
section
variable {E:Env} {g:Gh} {w:World}
variable {P:Program} {y oy:Operand} {dst:TypeId}
def aBD (η:Nat->Int) (k:IntKind) (a b:SI):(acW k a b).ev η=k.wrap (a.ev η+b.ev η):=by
 unfold acW;split<;>rfl
def agO (η:Nat->Int) (k:IntKind) (a b:SI):(NG k a b).ev η=k.wrap (a.ev η - b.ev η):=by
 unfold NG;split<;>rfl
def avh (η:Nat->Int) (k:IntKind) (a:SI):(XO k a).ev η=k.wrap (a.ev η):=by
 unfold XO;split<;>rfl
def Eu {op:BinOp} {a b:Value} (h:P.eqGuardType P.depth t=false\/(∀cs,a≠ .agg cs)) (h2:a≠ .nilIface\/(isConst x||isConst y)=true) (w:World):(eqGuard op t x y a b).run P w= .ok () w:=by
 cases a<;>first
  |(cases op<;>rfl)
  |(
   rcases h2 with h2|h2
   ·exact absurd rfl h2
   ·cases b<;>first
     |(cases op<;>rfl)
     |(cases op<;>first|rfl|(cases x<;>cases y<;>first|rfl|(simp[isConst] at h2)))
   )
  |(
   rcases h with h|h
   ·cases b<;>first|(cases op<;>rfl)|exact run_eqGuard_agg w op t x y _ _ h
   ·exact absurd rfl (h _))
def qq {r:Option Bool} {z:SV} (h:lx neg r=some z):∃b,r=some b/\z= .bool (if neg then !b else b):=by
 let ⟨b,h1,h2⟩:=aj h;cases h2;exact ⟨b,h1,by cases neg<;>rfl⟩
def Pd {r:Option Value} {z:SV} (h:GZ r=some z):∃v,r=some v/\z=uF v:=by
 let ⟨v,h1,h2⟩:=aj h;cases h2;exact ⟨v,h1,rfl⟩
def ara (E:Env) (eq:TypeId->SV->SV->Option Bool) (t:TypeId) (d:UD) (y:SV):eqD d E eq t .undef y=none:=by
 cases d<;>rfl
def aqZ (E:Env) (n:Nat) (t:TypeId) (y:SV):eqT E n t .undef y=none:=by
 cases n with
 |zero=>rfl
 |succ n=>
  show au (E.ty.get t) (λi=>eqD i.desc E (eqT E n) t .undef y)=none
  cases E.ty.get t with
  |none=>rfl
  |some i=>exact ara _ _ _ _ _
def akP {op:BinOp} {k k':IntKind} {a b:SI} {z:SV} (h:Xw E op t k k' a b=some z):∃m n v,a= .lit m/\b= .lit n/\nK E.P (binOp op t (.int k m) (.int k' n))=some v/\z=uF v:=by
 unfold Xw at h;split at h
 ·rename_i m n;let ⟨v,h1,h2⟩:=Pd h;exact ⟨m,n,v,rfl,rfl,h1,h2⟩
def aqI (x y:Int):(x==y)=decide (x=y):=by rw[lG];simp
def decLe (x y:Int):decide (x<=y)= !decide (y<x):=by rw[lG];simp
def VR.DV {b c:Bool} (h:b=c):VR g (.bool b) (.bool c):=by subst h;exact .bool b
def alu (hE:dP E g) {op:BinOp} {k k':IntKind} {a b:SI} {z:SV} (h:Xz op E op t k k' a b=some z) (w:World):
  ∃r,(binOp op t (.int k (a.ev g.η)) (.int k' (b.ev g.η))).run E.P w= .ok r w/\VR g r z:=by
 have lit:Xw E op t k k' a b=some z->∃r,(binOp op t (.int k (a.ev g.η)) (.int k' (b.ev g.η))).run E.P w= .ok r w/\VR g r z:=by
  intro h;obtain ⟨m,n,v,rfl,rfl,h1,rfl⟩:=akP h;exact ⟨v,BY h1 w,xF g v⟩
 cases op with
 |add=>
  let ⟨hk,h⟩:=aJ (show ay (gu k k') (some (SV.int k (acW k a b))) none=some z from h);cases h;obtain rfl:=nA hk;exact ⟨_,by simp[binOp,Op.intArith]<;>rfl,.int _ _ (aBD _ _ _ _).symm⟩
 |sub=>
  let ⟨hk,h⟩:=aJ (show ay (gu k k') (some (SV.int k (NG k a b))) none=some z from h);cases h;obtain rfl:=nA hk;exact ⟨_,by simp[binOp,Op.intArith]<;>rfl,.int _ _ (agO _ _ _ _).symm⟩
 |eql=>
  let ⟨hk,h⟩:=aJ (show ay (gu k k') (lx false (eqI E a b)) none=some z from h);obtain ⟨c,h1,rfl⟩:=qq h;obtain rfl:=nA hk;exact ⟨_,by simp[binOp,Op.intCmp]<;>rfl,VR.DV (by have:=N9 hE h1;rw[aqI,this];rfl)⟩
 |neq=>
  let ⟨hk,h⟩:=aJ (show ay (gu k k') (lx true (eqI E a b)) none=some z from h);obtain ⟨c,h1,rfl⟩:=qq h;obtain rfl:=nA hk;exact ⟨_,by simp[binOp,Op.intCmp]<;>rfl,VR.DV (by have:=N9 hE h1;rw[<-this,<-aqI];rfl)⟩
 |lss=>
  let ⟨hk,h⟩:=aJ (show ay (gu k k') (lx false (Dq E a b)) none=some z from h);obtain ⟨c,h1,rfl⟩:=qq h;obtain rfl:=nA hk;exact ⟨_,by simp[binOp,Op.intCmp]<;>rfl,VR.DV (by have:=yH hE h1;simpa using this)⟩
 |gtr=>
  let ⟨hk,h⟩:=aJ (show ay (gu k k') (lx false (Dq E b a)) none=some z from h);obtain ⟨c,h1,rfl⟩:=qq h;obtain rfl:=nA hk;exact ⟨_,by simp[binOp,Op.intCmp]<;>rfl,VR.DV (by have:=yH hE h1;simpa using this)⟩
 |leq=>
  let ⟨hk,h⟩:=aJ (show ay (gu k k') (lx true (Dq E b a)) none=some z from h);obtain ⟨c,h1,rfl⟩:=qq h;obtain rfl:=nA hk;exact ⟨_,by simp[binOp,Op.intCmp]<;>rfl,VR.DV (by have:=yH hE h1;rw[<-this];first|exact decLe _ _|(rw[<-decLe];rfl))⟩
 |geq=>
  let ⟨hk,h⟩:=aJ (show ay (gu k k') (lx true (Dq E a b)) none=some z from h);obtain ⟨c,h1,rfl⟩:=qq h;obtain rfl:=nA hk;exact ⟨_,by simp[binOp,Op.intCmp]<;>rfl,VR.DV (by have:=yH hE h1;rw[<-this];first|exact decLe _ _|(rw[<-decLe];rfl))⟩
 |_=>exact lit h
def ajB {op:BinOp} {a b:ByteArray} {z:SV} (h:ajC op E op t a b=some z) (w:World):
  ∃r,(binOp op t (.string a) (.string b)).run E.P w= .ok r w/\VR g r z:=by
 have lit:GZ (nK E.P (binOp op t (.string a) (.string b)))=some z->∃r,(binOp op t (.string a) (.string b)).run E.P w= .ok r w/\VR g r z:=by
  intro h;obtain ⟨v,h1,rfl⟩:=Pd h;exact ⟨v,BY h1 w,xF g v⟩
 have hb:(a.toList==b.toList)=decide (a=b):=by
  rw[ByteArray.toList_eq,ByteArray.toList_eq,lG];simp only[wE,lI];constructor
  ·intro h;cases a with|mk a=>cases b with|mk c=>simp at h;simp[h]
  ·intro h;rw[h]
 cases op with
 |eql=>cases h;exact ⟨_,by simp[binOp,Op.stringOp]<;>rfl,VR.DV (by rw[wI];simpa using hb)⟩
 |neq=>cases h;exact ⟨.bool (!(a.toList==b.toList)),by simp[binOp,Op.stringOp,bne],VR.DV (by rw[wI,hb])⟩
 |_=>exact lit h
def Xc {a b:Value} (h1:∀k n,a≠ .int k n) (h2:∀k n,a≠ .float k n) (h3:∀k n m,a≠ .complex k n m) (h4:∀s,a≠ .string s) (w:World):
  (binOp .eql t a b).run P w=((Op.equalIn 10000 t a b).run P w).andThen λr w'=>.ok (.bool r) w':=by
 cases a<;>first|exact absurd rfl (h1 _ _)|exact absurd rfl (h2 _ _)|exact absurd rfl (h3 _ _ _)|exact absurd rfl (h4 _)|(simp only[binOp];simp[Op.equal,Op.maxDepth])
def Xb {a b:Value} (h1:∀k n,a≠ .int k n) (h2:∀k n,a≠ .float k n) (h3:∀k n m,a≠ .complex k n m) (h4:∀s,a≠ .string s) (w:World):
  (binOp .neq t a b).run P w=((Op.equalIn 10000 t a b).run P w).andThen λr w'=>.ok (.bool (!r)) w':=by
 cases a<;>first|exact absurd rfl (h1 _ _)|exact absurd rfl (h2 _ _)|exact absurd rfl (h3 _ _ _)|exact absurd rfl (h4 _)|(simp only[binOp];simp[Op.equal,Op.maxDepth])
def aaD (hE:dP E g) {op:BinOp} {x y z:SV} (hx:∀k e,x≠ .int k e) (hs:∀s,x≠ .str s) (h:Uq op E t ox oy x y=some z) (hu:VR g u x) (hv:VR g v y) (w:World):
  ∃r,(do eqGuard op t ox oy u v;binOp op t u v:Sem Value).run E.P w= .ok r w/\VR g r z:=by
 have key:∀b,HC E t ox oy x y=some b->(eqGuard op t ox oy u v).run E.P w= .ok () w/\(∀w,(binOp .eql t u v).run E.P w= .ok (.bool b) w)/\(∀w,(binOp .neq t u v).run E.P w= .ok (.bool (!b)) w):=by
  intro b he;let ⟨gN,he⟩:=aJ he;have ky:=λw=>acm hE 20 t x y b he u v hu hv 9980 w
  simp only[show 20+9980=10000 from rfl] at ky;have hnu:x≠ .undef:=λe=>by rw[e,aqZ] at he;simp at he
  have aDS:(∀k n,u≠ .int k n)/\(∀k n,u≠ .float k n)/\(∀k n m,u≠ .complex k n m)/\(∀s,u≠ .string s)/\(E.P.eqGuardType E.P.depth t=false\/(∀cs,u≠ .agg cs))/\(u≠ .nilIface\/(isConst ox||isConst oy)=true):=by
   cases hu<;>first|exact absurd rfl (hx _ _)|exact absurd rfl (hs _)|exact absurd rfl hnu|(simp;done)|(simp[auO] at gN;simp[gN])
  let ⟨f1,f2,f3,f4,f5,f6⟩:=aDS;refine ⟨Eu f5 f6 w,λw=> ?_,λw=> ?_⟩
  ·rw[Xc f1 f2 f3 f4,ky];rfl
  ·rw[Xb f1 f2 f3 f4,ky];rfl
 cases op with
 |eql=>
  obtain ⟨b,h1,rfl⟩:=qq (show lx false (HC E t ox oy x y)=some z from h);let ⟨k1,k2,k3⟩:=key b h1;exact ⟨.bool b,by simp only[Sem.run_bind,k1,Result.andThen_ok,k2],.bool b⟩
 |neq=>
  obtain ⟨b,h1,rfl⟩:=qq (show lx true (HC E t ox oy x y)=some z from h);let ⟨k1,k2,k3⟩:=key b h1;exact ⟨.bool (!b),by simp only[Sem.run_bind,k1,Result.andThen_ok,k3],.bool (!b)⟩
 |_=>cases h
def arp (hE:dP E g) {op:BinOp} {x y z:SV} (h:Ey E op t ox oy x y=some z) (hu:VR g u x) (hv:VR g v y) (w:World):
  ∃r,(do eqGuard op t ox oy u v;binOp op t u v:Sem Value).run E.P w= .ok r w/\VR g r z:=by
 by_cases hx:∃k e,x= .int k e
 ·obtain ⟨k,a,rfl⟩:=hx;let ⟨p,h1,h2⟩:=aj (show au (intOf y) (λp=>Xz op E op t k p.1 a p.2)=some z from h)
  obtain rfl:=rS h1;cases hu with|int _ _ e1=>cases hv with|int _ _ e2=>
  subst e1;subst e2;let ⟨r,q1,q2⟩:=alu hE h2 w;exact ⟨r,by rw[Sem.run_bind,Eu (P:=E.P) (a:=.int k (a.ev g.η)) (.inr (by simp)) (.inl (by simp))];exact q1,q2⟩
 ·by_cases hs:∃s,x= .str s
  ·obtain ⟨s,rfl⟩:=hs;let ⟨b,h1,h2⟩:=aj (show au (strOf y) (λb=>ajC op E op t s b)=some z from h)
   obtain rfl:=mZ h1;cases hu;cases hv;let ⟨r,q1,q2⟩:=ajB (g:=g) h2 w;exact ⟨r,by rw[Sem.run_bind,Eu (P:=E.P) (a:=.string s) (.inr (by simp)) (.inl (by simp))];exact q1,q2⟩
  ·have oT:∀k e,x≠ .int k e:=λk e q=>hx ⟨k,e,q⟩
   have hs':∀s,x≠ .str s:=λs q=>hs ⟨s,q⟩
   refine aaD hE oT hs' ?_ hu hv w;cases x<;>first|exact absurd rfl (oT _ _)|exact absurd rfl (hs' _)|exact h
def aCg {i:TI} (h:CK P t i):∃d,P.underlying t=some d:=by
 have hd:=h.desc;generalize i.desc=d at hd;cases d<;>simp only[KN] at hd<;>first|exact ⟨_,hd⟩|exact ⟨_,hd.choose_spec⟩|exact ⟨_,hd.choose_spec.1⟩|exact ⟨_,hd.choose_spec.choose_spec.choose_spec⟩
def amn (hE:dP E g) {x z:SV} (h:Qi E src dst x=some z) (hu:VR g u x) (w:World):∃r,(convert src dst u).run E.P w= .ok r w/\VR g r z:=by
 let ⟨i,j,hi,hj,h⟩:=bc h;let ⟨d1,ye⟩:=aCg (hE.ty _ _ hi);have hd:=(hE.ty _ _ hj).desc;generalize j.desc=D at hd h;cases D with
 |int k=>
  let ⟨p,h1,h2⟩:=aj (show au (intOf x) (λp=>some (SV.int k (XO k p.2)))=some z from h)
  cases h2;obtain rfl:=rS h1;cases hu with|int _ _ e1=>
  subst e1;exact ⟨_,by simp[convert,run_underlying ye,run_underlying hd,Conv.intToInt]<;>rfl,.int _ _ (avh _ _ _).symm⟩
 |string=>
  have h:ajD x=some z:=h;unfold ajD at h;split at h
  ·cases h;cases hu;exact ⟨_,by simp[convert,run_underlying ye,run_underlying hd]<;>rfl,.str _⟩
  ·unfold awi at h;split at h
   ·cases h;cases hu with|int _ _ e1=>
    subst e1;exact ⟨_,by simp[convert,run_underlying ye,run_underlying hd,Conv.intToString]<;>rfl,.str _⟩
  ·cases h
 |_=>cases h
def asm {op:UnOp} {x z:SV} (h:unA op x=some z) (hu:VR g u x) (w:World):∃r,(Op.unary op u).run P w= .ok r w/\VR g r z:=by
 cases hu with
 |bool b=>
  let ⟨h1,h2⟩:=aJ (show ay (PL op) (some (SV.bool (!b))) none=some z from h);cases h2;cases op<;>first|(simp[PL] at h1;done)|exact ⟨_,rfl,.bool _⟩
 |int k e he=>
  let ⟨h1,h2⟩:=aJ (show ay (isNeg op) (some (SV.int k (NG k (.lit 0) e))) none=some z from h);cases h2;subst he;cases op<;>first|(simp[isNeg] at h1;done)|exact ⟨.int k (k.wrap (0-e.ev g.η)),by simp[Op.unary,Op.intArith],.int _ _ (by rw[agO];simp only[SI.ev])⟩
 |_=>cases h
end
section
variable {E:Env} {g:Gh} {f:Hf} {w:World}
variable {P:Program}
def lJ (f:Hf) (u:Up):Hf:=λj=>if j=u.1 then u.2 else f j
def nQ (f:Hf):cQ->Hf
 | []=>f
 |u::us=>nQ (lJ f u) us
def aCf (h:Hs) (u:Up):(h.up u).hp.get=lJ h.hp.get u:=funext λj=>Tr.iU _ _ _ _
def LF:∀(us:cQ) (h:Hs),(h.gY us).hp.get=nQ h.hp.get us
 | [],_=>rfl
 |u::us,h=>by
  show ((h.up u).gY us).hp.get=_;rw[LF us,aCf];rfl
def zq:∀(us:cQ) (h:Hs),(h.gY us).nx=h.nx
 | [],_=>rfl
 |u::us,h=>by
  show ((h.up u).gY us).nx=_;rw[zq us];rfl
def Gh.bind (g:Gh) (id:Nat) (p:Nat×Nat) (l:Nat) (e:TypeId):Gh:=⟨g.η,g.sz,λj=>if j=id then some p else g.Z j,λj=>if j=id then l else g.lim j,λj=>if j=id then e else g.et j,g.wb⟩
def Gh.Fp {id:Nat} {p:Nat×Nat} (h:g.Z id=none):g.le (g.bind id p l e):=by
 have key:∀j q,g.Z j=some q->j≠id:=λj q hq e=>by subst e;rw[h] at hq;simp at hq
 refine ⟨rfl,rfl,λj q hq=> ?_,λj q hq=> ?_,λj q hq=> ?_,rfl⟩
 ·show (if j=id then some p else g.Z j)=some q
  rw[aA (key j q hq)];exact hq
 ·exact aA (key j q hq)
 ·exact aA (key j q hq)
def Gh.je (g:Gh) (id:Nat) (p:Nat×Nat) (l:Nat) (e:TypeId):(g.bind id p l e).Z id=some p:=by simp[Gh.bind]
def Gh.yV (g:Gh) (id:Nat) (p:Nat×Nat) (l:Nat) (e:TypeId):(g.bind id p l e).lim id=l:=by simp[Gh.bind]
def Gh.BE (g:Gh) (id:Nat) (p:Nat×Nat) (l:Nat) (e:TypeId):(g.bind id p l e).et id=e:=by simp[Gh.bind]
def Gh.lV (g:Gh) {id j:Nat} (p:Nat×Nat) (l:Nat) (e:TypeId) (h:j≠id):(g.bind id p l e).Z j=g.Z j:=by simp[Gh.bind,h]
def HR.Fj (h:HR g f w) {id:Nat} (hn:g.Z id=none):f id=none:=by
 cases hf:f id with
 |none=>rfl
 |some o=>
  let ⟨b,c,h1,_⟩:=h.ob id o hf;rw[hn] at h1;simp at h1
def HR.sub (h:HR g f w) {f':Hf} (hs:∀id o,f' id=some o->f id=some o):HR g f' w:=
 ⟨λid o ho=>h.ob id o (hs id o ho),λi j x y b c d hx hy h1 h2=>h.inj i j x y b c d (hs i x hx) (hs j y hy) h1 h2⟩
def HR.write (h:HR g f w) {id:Nat} {o o':SO} (hf:f id=some o) (hρ:g.Z id=some (b,c)) (mD:w'.heap.size=w.heap.size) (Er:∀k,k≠b->w'.heap[k]? =w.heap[k]?) (vt:OR g w' id b c o') (h1:w'.os=w.os) (h2:w'.tape=w.tape) (h3:w'.output=w.output):
  HR g (lJ f (id,some o')) w'/\Fr g f w g (lJ f (id,some o')) w':=by
 have hb:b<w.heap.size:=by
  let ⟨b',c',q1,q2,_⟩:=h.ob id o hf;rw[hρ] at q1;obtain ⟨rfl,rfl⟩:b=b'/\c=c':=by simpa using q1
  exact q2
 refine ⟨⟨λj x hx=> ?_,λi j x y b1 c1 d1 hx hy e1 e2=> ?_⟩,⟨h1,h2,h3,by omega,.refl _,λk hk hn=>Er k (λe=>hn ⟨id,o,c,hf,by rw[e];exact hρ⟩),λk hk hm=> ?_⟩⟩
 ·simp only[lJ] at hx;split at hx
  ·rename_i e;subst e;cases hx;exact ⟨b,c,hρ,by omega,vt⟩
  ·rename_i e;let ⟨b1,c1,q1,q2,q3⟩:=h.ob j x hx;refine ⟨b1,c1,q1,by omega,q3.mono (.refl _) q1 (Er b1 (λe'=> ?_))⟩
   subst e';exact e (h.inj j id x o b1 c1 c hx hf q1 hρ)
 ·have key:∀k z,lJ f (id,some o') k=some z->∃z',f k=some z':=by
   intro k z hz;simp only[lJ] at hz;split at hz
   ·rename_i e;subst e;exact ⟨o,hf⟩
   ·exact ⟨z,hz⟩
  let ⟨x',oT⟩:=key i x hx;let ⟨y',hy'⟩:=key j y hy;exact h.inj i j x' y' b1 c1 d1 oT hy' e1 e2
 ·let ⟨j,x,d,hx,hd⟩:=hm;simp only[lJ] at hx;split at hx
  ·rename_i e;subst e;exact ⟨_,o,d,hf,hd⟩
  ·exact ⟨j,x,d,hx,hd⟩
def HR.alloc (h:HR g f w) (hn:g.Z new=none) {o':SO} (hw:w'=w.alloc ob) (vt:OR (g.bind new (w.heap.size,0) l e) w' new w.heap.size 0 o'):
  HR (g.bind new (w.heap.size,0) l e) (lJ f (new,some o')) w'/\Fr g f w (g.bind new (w.heap.size,0) l e) (lJ f (new,some o')) w':=by
 subst hw;have wW:=h.Fj hn;have hle:=Gh.Fp (p:=(w.heap.size,0)) (l:=l) (e:=e) hn;have mD:(w.alloc ob).heap.size=w.heap.size+1:=by simp
 refine ⟨⟨λj x hx=> ?_,λi j x y b1 c1 d1 hx hy e1 e2=> ?_⟩,⟨rfl,rfl,rfl,by omega,hle,λk hk _=>heap_alloc_old w ob hk,λk hk hm=> ?_⟩⟩
 ·simp only[lJ] at hx;split at hx
  ·rename_i e;subst e;cases hx;exact ⟨w.heap.size,0,Gh.je _ _ _ _ _,by omega,vt⟩
  ·rename_i e;let ⟨b1,c1,q1,q2,q3⟩:=h.ob j x hx;exact ⟨b1,c1,(Gh.lV g _ _ _ e).trans q1,by omega,q3.mono hle q1 (heap_alloc_old w ob q2)⟩
 ·simp only[lJ] at hx hy;split at hx
  ·rename_i ei;subst ei;split at hy
   ·rename_i ej;exact ej.symm
   ·rename_i ej;rw[Gh.je] at e1;rw[Gh.lV g _ _ _ ej] at e2;let ⟨b2,c2,q1,q2,_⟩:=h.ob j y hy;rw[e2] at q1;simp at e1 q1;omega
  ·rename_i ei;rw[Gh.lV g _ _ _ ei] at e1;split at hy
   ·rename_i ej;subst ej;rw[Gh.je] at e2;let ⟨b2,c2,q1,q2,_⟩:=h.ob i x hx;rw[e1] at q1;simp at e2 q1;omega
   ·rename_i ej;rw[Gh.lV g _ _ _ ej] at e2;exact h.inj i j x y b1 c1 d1 hx hy e1 e2
 ·let ⟨j,x,d,hx,hd⟩:=hm;simp only[lJ] at hx;split at hx
  ·rename_i e;subst e;rw[Gh.je] at hd;simp at hd;omega
  ·rename_i e;rw[Gh.lV g _ _ _ e] at hd;exact ⟨j,x,d,hx,hd⟩
def HR.kill (h:HR g f w) (id:Nat):HR g (lJ f (id,none)) w/\Fr g f w g (lJ f (id,none)) w:=by
 have key:∀k z,lJ f (id,none) k=some z->f k=some z:=by
  intro k z hz;simp only[lJ] at hz;split at hz
  ·simp at hz
  ·exact hz
 refine ⟨h.sub key,⟨rfl,rfl,rfl,cF _,.refl _,λ_ _ _=>rfl,λk hk hm=> ?_⟩⟩
 let ⟨j,x,d,hx,hd⟩:=hm;exact ⟨j,x,d,key j x hx,hd⟩
def HR.rename (h:HR g f w) {id c':Nat} {o o':SO} (hn:g.Z new=none) (hf:f id=some o) (hρ:g.Z id=some (b,c)) (mD:w'.heap.size=w.heap.size) (Er:∀k,k≠b->w'.heap[k]? =w.heap[k]?) (vt:OR (g.bind new (b,c') l e) w' new b c' o') (h1:w'.os=w.os) (h2:w'.tape=w.tape) (h3:w'.output=w.output):
  HR (g.bind new (b,c') l e) (lJ (lJ f (id,none)) (new,some o')) w'/\Fr g f w (g.bind new (b,c') l e) (lJ (lJ f (id,none)) (new,some o')) w':=by
 have hle:=Gh.Fp (p:=(b,c')) (l:=l) (e:=e) hn;have wW:=h.Fj hn;have hb:b<w.heap.size:=by
  let ⟨b',c',q1,q2,_⟩:=h.ob id o hf;rw[hρ] at q1;obtain ⟨rfl,rfl⟩:b=b'/\c=c':=by simpa using q1
  exact q2
 have key:∀j x,lJ (lJ f (id,none)) (new,some o') j=some x->(j=new/\x=o')\/(j≠new/\j≠id/\f j=some x):=by
  intro j x hx;simp only[lJ] at hx;split at hx
  ·rename_i e;cases hx;exact .inl ⟨e,rfl⟩
  ·rename_i e;split at hx
   ·simp at hx
   ·rename_i e';exact .inr ⟨e,e',hx⟩
 have mY:∀j x d,j≠id->f j=some x->g.Z j=some (b,d)->False:=λj x d hj hx hd=>hj (h.inj j id x o b d c hx hf hd hρ)
 refine ⟨⟨λj x hx=> ?_,λi j x y b1 c1 d1 hx hy e1 e2=> ?_⟩,⟨h1,h2,h3,by omega,hle,λk hk hn=>Er k (λe=>hn ⟨id,o,c,hf,by rw[e];exact hρ⟩),λk hk hm=> ?_⟩⟩
 ·rcases key j x hx with ⟨rfl,rfl⟩|⟨q1,q2,q3⟩
  ·exact ⟨b,c',Gh.je _ _ _ _ _,by omega,vt⟩
  ·let ⟨b1,c1,r1,r2,r3⟩:=h.ob j x q3;exact ⟨b1,c1,(Gh.lV g _ _ _ q1).trans r1,by omega,r3.mono hle r1 (Er b1 (λe=>by subst e;exact mY j x c1 q2 q3 r1))⟩
 ·rcases key i x hx with ⟨rfl,rfl⟩|⟨q1,q2,q3⟩<;>rcases key j y hy with ⟨rfl,rfl⟩|⟨r1,r2,r3⟩
  ·rfl
  ·rw[Gh.je] at e1;rw[Gh.lV g _ _ _ r1] at e2;obtain ⟨rfl,_⟩:b=b1/\c'=c1:=by simpa using e1
   exact (mY j y d1 r2 r3 e2).elim
  ·rw[Gh.je] at e2;rw[Gh.lV g _ _ _ q1] at e1;obtain ⟨rfl,_⟩:b=b1/\c'=d1:=by simpa using e2
   exact (mY i x c1 q2 q3 e1).elim
  ·rw[Gh.lV g _ _ _ q1] at e1;rw[Gh.lV g _ _ _ r1] at e2;exact h.inj i j x y b1 c1 d1 q3 r3 e1 e2
 ·let ⟨j,x,d,hx,hd⟩:=hm;rcases key j x hx with ⟨rfl,rfl⟩|⟨q1,q2,q3⟩
  ·rw[Gh.je] at hd;obtain ⟨rfl,_⟩:b=k/\c'=d:=by simpa using hd
   exact ⟨id,o,c,hf,hρ⟩
  ·rw[Gh.lV g _ _ _ q1] at hd;exact ⟨j,x,d,q3,hd⟩
def ue {cur:hY} (h:w.heap[b]? =some (.cells cur e fz)):w.cell? ⟨b,o,none⟩=cur[o]? :=by simp[World.cell?,h]
def add_lit (b o j:Nat):(⟨b,o,none⟩:Addr).add j=⟨b,o+j,none⟩:=by unfold Addr.add;split<;>simp_all
def Cells.eI {id:Nat} {cs:aM} (h:Cells g w id b o e cs) (off n:Nat) (hl:off+n<=cs.length):
  ∃vs:eH,vs.length=n/\gF g vs ((cs.drop off).take n)/\∀j v,vs[j]? =some v->w.cell? ⟨b,o+off+j,none⟩=some v:=by
 let ⟨⟨cur,h1,h0,vs,h2,h3⟩,h4⟩:=h;refine ⟨(vs.drop off).take n,?_,(h2.drop off).take n,λj v hv=> ?_⟩
 ·have:=h2.length;simp;omega
 ·rw[ue h1];rw[eR] at hv;split at hv
  ·rw[fD] at hv;rw[fV];exact h3 _ _ hv
  ·simp at hv
def HH:∀{cs:aM},vy cs=true->∀{j:Nat} {x:SV},cs[j]? =some x->Iv x=false
 | [],_,j,x,h=>by simp at h
 |y::cs,hd,j,x,h=>by
  have hd:ay (Iv y) false (vy cs)=true:=hd;rw[bk] at hd;split at hd
  ·cases hd
  ·rename_i hu;cases j with
   |zero=>
    have e:y=x:=by simpa using h
    rw[<-e];simpa using hu
   |succ j=>exact HH hd (by simpa using h)
def OR.eI {id:Nat} {x:SO} {p:TypeId×aM} (h:OR g w id b o x) (hx:gP (some x) off n=some p) (hl:off+n<=p.2.length):
  ∃vs:eH,vs.length=n/\gF g vs ((p.2.drop off).take n)/\∀j v,vs[j]? =some v->w.cell? ⟨b,o+off+j,none⟩=some v:=by
 cases x with
 |cells e cs=>cases hx;exact Cells.eI h off n hl
 |ro cs=>
  let ⟨hd,hx⟩:=aJ (show ay (vy ((cs.drop off).take n)) (some (0,cs)) none=some p from hx);cases hx;let ⟨cur,e,fz,h1,_,h2⟩:=h;have mD:n=0\/o+off+n<=cur.size:=by
   by_cases hn:n=0
   ·exact .inl hn
   ·right;have hl:off+n<=cs.length:=hl;have bD:off+n-1<cs.length:=by omega
    let ⟨v,a,_⟩:=h2 (off+n-1) cs[off+n-1] (by simp[bD])
    have:=(oK.1 a).1;omega
  have hlen:((cur.toList.drop (o+off)).take n).length=n:=by
   rcases mD with h|h
   ·subst h;simp
   ·simp;omega
  have j5:∀j v,((cur.toList.drop (o+off)).take n)[j]? =some v->j<n/\cur[o+off+j]? =some v:=λj v hv=>by
   rw[eR] at hv;split at hv
   ·rw[fD] at hv;exact ⟨by assumption,by simpa using hv⟩
   ·cases hv
  refine ⟨(cur.toList.drop (o+off)).take n,hlen,gF.mk (by rw[hlen,dx,gJ];have hl:off+n<=cs.length:=hl;show n=min n (cs.length-off);omega) (λj v y hv hy=> ?_),λj v hv=> ?_⟩
  ·have hu:=HH hd hy;let ⟨hj,hv⟩:=j5 j v hv;have hy:((cs.drop off).take n)[j]? =some y:=hy;rw[eR,ax hj,fD] at hy;let ⟨v',a,b⟩:=h2 (off+j) y hy;have e:v'=v:=by
    rw[show o+(off+j)=o+off+j by omega,hv] at a
    simpa using a.symm
   rw[<-e];exact b hu
  ·let ⟨_,hv⟩:=j5 j v hv;rw[ue h1];exact hv
 |_=>cases hx
def AY {cs xs:List Y} (h:off+xs.length<=cs.length) (j:Nat):
  (cs.take off++xs++cs.drop (off+xs.length))[j]? =if off<=j/\j<off+xs.length then xs[j-off]? else cs[j]? :=by
 by_cases h1:j<off
 ·rw[aA (by omega),kN,yn (by simp;omega),eR]
  simp[h1]
 ·by_cases h2:j<off+xs.length
  ·rw[ax ⟨by omega,h2⟩,yn (by simp;omega),qW (by simp;omega)]
   congr 1;simp[eg (by omega:off<=cs.length)]
  ·rw[qW (by simp;omega),fD,aA (by omega)]
   congr 1;simp[eg (by omega:off<=cs.length)]
   omega
def I2 (cs:aM) (off:Nat) (xs:aM):dU cs off xs=cs.take off++xs++cs.drop (off+xs.length):=rfl
def Cells.store {id:Nat} {cs:aM} (h:Cells g w id b o e cs) {us:eH} {xs:aM} (hx:gF g us xs) (hl:off+xs.length<=cs.length):
  ∃w',(storeCells ⟨b,o+off,none⟩ us 0).run P w= .ok () w'/\Cells g w' id b o e (dU cs off xs)/\w'.heap.size=w.heap.size/\(∀k,k≠b->w'.heap[k]? =w.heap[k]?)/\w'.os=w.os/\w'.tape=w.tape/\w'.output=w.output:=by
 have hul:=hx.length;by_cases Fw:us= []
 ·subst Fw;have Fv:xs= []:=ur (by simpa using hul.symm)
  subst Fv;refine ⟨w,rfl,?_,rfl,λ_ _=>rfl,rfl,rfl,rfl⟩
  have:dU cs off []=cs:=by rw[I2];simp
  rw[this];exact h
 let ⟨⟨cur,h1,h0,vs,h2,h3⟩,h4⟩:=h;have hvl:=h2.length;have UM:0<us.length:=by cases us with|nil=>exact absurd rfl Fw|cons _ _=>simp
 have mD:o+off+us.length<=cur.size:=by
  have bD:off+us.length-1<vs.length:=by omega
  have:=h3 (off+us.length-1) vs[off+us.length-1] (by simp[bD])
  have:=(oK.1 this).1;omega
 have ky:=run_storeCells_at P b (o+off) e us 0 cur w h1 (by omega) hx.one
 simp only[nu] at ky;refine ⟨_,ky,⟨⟨_,setRow_heap w b cur _ e _ h1,?_,vs.take off++us++vs.drop (off+us.length),?_,?_⟩,h4⟩,by simp,λk hk=>setRow_other w b k _ hk,rfl,rfl,rfl⟩
 ·simp;omega
 ·rw[I2,<-hul];exact ((h2.take off).append hx).append (h2.drop _)
 ·intro j v hv;rw[AY (by omega)] at hv
  have hg:(cur.toList.take (o+off)++us++cur.toList.drop (o+off+us.length)).toArray[o+j]? =if o+off<=o+j/\o+j<o+off+us.length then us[o+j-(o+off)]? else cur[o+j]? :=by
   rw[IK,AY (by simp;omega)]
   simp
  rw[hg];split at hv
  ·rename_i hc;rw[ax (by omega)]
   have:o+j-(o+off)=j-off:=by omega
   rw[this];exact hv
  ·rename_i hc;rw[aA (by omega)]
   exact h3 j v hv
end
section
variable {E:Env} {g:Gh} {f:Hf} {w:World}
variable {P:Program} {kc:IntKind}
structure gS (g:Gh) (f:Hf) (w:World) (v:SV) (us:cQ) (new:Nat) (r:Value) (g':Gh) (w':World):Prop where
 val:VR g' r v
 hr:HR g' (nQ f us) w'
 fr:Fr g f w g' (nQ f us) w'
 ro:∀id,id≠new->g'.Z id=g.Z id
 nil:us= []->g'=g
def gS.same (h:HR g f w) {r:Value} {v:SV} (hv:VR g r v):gS g f w v [] new r g w:=⟨hv,h,Fr.refl _ _ _,λ_ _=>rfl,λ_=>rfl⟩
def HR.at (h:HR g f w) {id:Nat} {o:SO} (hf:f id=some o) (hρ:g.Z id=some (b,c)):b<w.heap.size/\OR g w id b c o:=by
 let ⟨b',c',q1,q2,q3⟩:=h.ob id o hf;rw[hρ] at q1;obtain ⟨rfl,rfl⟩:b=b'/\c=c':=by simpa using q1
 exact ⟨q2,q3⟩
def ags {i:TI} (hT:CK P t i) (ha:kW i.desc=true) {vs:eH} (hl:vs.length=i.size) (ad:Addr) (h:∀j v,vs[j]? =some v->w.cell? (ad.add j)=some v):(loadVar t ad).run P w= .ok (.agg vs.toArray) w:=by
 have:=run_loadCells_list (P:=P) w ad vs h;rw[hl] at this;simp only[loadVar,Sem.run_bind,A1 hT,ha,Result.andThen_ok,aF,oL hT,this,Sem.run_pure]
def agr {i:TI} (hT:CK P t i) (ha:kW i.desc=false) (ad:Addr) (h:w.cell? ad=some v):(loadVar t ad).run P w= .ok v w:=by
 simp only[loadVar,Sem.run_bind,A1 hT,ha,Result.andThen_ok,aK,aG,run_load,h]
def PA (hE:dP E g) (h:HR g f w) {x z:SV} (hu:VR g u x) (uL:nM E f t x=some z):∃r,(Instr.loadAt t u).run E.P w= .ok r w/\VR g r z:=by
 let ⟨q,h1,hl⟩:=aj uL;let ⟨i,hi,hl⟩:=aj hl;let ⟨p,hp,hl⟩:=aj hl;obtain rfl:=om h1;have hT:=hE.ty t i hi;have hx:∃x,f q.1=some x/\gP (some x) q.2 (wide i)=some p:=by
  cases hf:f q.1 with
  |none=>rw[hf] at hp;cases hp
  |some x=>exact ⟨x,rfl,by rw[<-hf];exact hp⟩
 let ⟨x,hf,hx⟩:=hx;cases hu with
 | @ptr _ _ b o hρ=>
  have hc:OR g w q.1 b o x:=(h.at hf hρ).2;unfold ia at hl;rw[bk] at hl;split at hl
  ·rename_i ha;let ⟨hle,hl⟩:=aJ hl;have hle:=(cN _ _).1 hle;cases hl;have hw:wide i=i.size:=by unfold wide;rw[ha]
   rw[hw] at hx;let ⟨vs,v1,v2,v3⟩:=hc.eI hx hle;refine ⟨.agg vs.toArray,?_,.agg (by simpa using v2)⟩
   simp only[Instr.loadAt,Instr.sureAddr,Sem.run_bind,Sem.run_pure,Result.andThen_ok];exact ags hT ha v1 _ (λj v hj=>by rw[add_lit];exact v3 j v hj)
  ·rename_i ha;have bD:q.2<p.2.length:=(cg.1 hl).1;have hw:wide i=1:=by unfold wide;rw[show kW i.desc=false by simpa using ha]
   rw[hw] at hx;let ⟨vs,v1,v2,v3⟩:=hc.eI hx (by omega)
   have hz:((p.2.drop q.2).take 1)[0]? =some z:=by rw[eR,ax (by omega),fD,nu];exact hl
   let ⟨v,hv,_,hd⟩:=v2.get hz;refine ⟨v,?_,hd⟩;simp only[Instr.loadAt,Instr.sureAddr,Sem.run_bind,Sem.run_pure,Result.andThen_ok];exact agr hT (by simpa using ha) _ (by have:=v3 0 v hv;rwa[nu] at this)
def afN (hE:dP E g) (h:HR g f w) {x y:SV} (hu:VR g u x) (hv:VR g v y) {us:cQ} (uL:p7 E f t y x=some us):
  ∃w',(Instr.storeAt t u v).run E.P w= .ok () w'/\HR g (nQ f us) w'/\Fr g f w g (nQ f us) w':=by
 let ⟨q,h1,hl⟩:=aj uL;let ⟨i,xs,p,hi,hxs,hp,hl⟩:=qs hl;obtain rfl:=om h1;let ⟨hc,hl⟩:=aJ hl;cases hl;rw[aY] at hc;have hlen:=(beq_iff _ _).1 hc.1;have hle:=(cN _ _).1 hc.2;have hf:=lh hp;have hT:=hE.ty t i hi;have hcr:=hv.gP hxs;cases hu with
 | @ptr _ _ b o hρ=>
  have Aa:Cells g w q.1 b o p.1 p.2:=(h.at hf hρ).2;let ⟨w',q1,q2,q3,q4,q5,q6,q7⟩:=Aa.store (P:=E.P) hcr hle;let ⟨r1,r2⟩:=h.write (o':=.cells p.1 (dU p.2 q.2 xs)) hf hρ q3 q4 q2 q5 q6 q7;refine ⟨w',?_,r1,r2⟩;have mD:v.cells.size=i.size:=by rw[<-hlen,<-hcr.length];simp
  simp only[Instr.storeAt,Instr.sureAddr,storeVar,Sem.run_bind,Sem.run_pure,Result.andThen_ok,oL hT,mD,ne_eq,not_true,aG,Sem.run_ite];exact q1
def gF.dU {vs us:eH} {cs xs:aM} (h:gF g vs cs) (k:gF g us xs):gF g (vs.take off++us++vs.drop (off+us.length)) (bQ.dU cs off xs):=by
 rw[I2,k.length];exact ((h.take off).append k).append (h.drop _)
def Bh (place:Nat->Option (Nat×Nat)):∀(parts:List (Nat×Value)) (gI:List (Nat×aM)) (vs:hY) (cs rs:aM),gF g vs.toList cs->
  parts.length=gI.length->(∀(j:Nat) (i:Nat) (v:Value) (i':Nat) (xs:aM),parts[j]? =some (i,v)->gI[j]? =some (i',xs)->i=i'/\gF g v.cells.toList xs)->mJ place cs gI=some rs->
  ∃us,Instr.fill place vs parts=some us/\gF g us.toList rs
 | [],[],vs,cs,rs,hc,_,_,h=>by cases h;exact ⟨vs,rfl,hc⟩
 |(i,v)::parts,(i',xs)::gI,vs,cs,rs,hc,hl,hp,h=>by
  obtain ⟨rfl,hx⟩:=hp 0 i v i' xs rfl rfl;let ⟨q,hpl,h⟩:=aj (show au (place i) (λq=>ay (Nat.beq xs.length q.2&&Nat.ble (Nat.add q.1 q.2) cs.length) (mJ place (bQ.dU cs q.1 xs) gI) none)=some rs from h)
  let ⟨alL,h⟩:=aJ h;rw[aY] at alL;have h1:=(beq_iff _ _).1 alL.1;have h2:q.1+q.2<=cs.length:=(cN _ _).1 alL.2;let ⟨off,size⟩:=q;simp only at h1 h2 hpl h;have hvl:v.cells.size=size:=by rw[<-h1,<-hx.length];simp
  have gD:vs.size=cs.length:=by rw[<-hc.length];simp
  have aIm:(v.cells.zipIdx.foldl (λcs (c,j)=>cs.setIfInBounds (off+j) c) vs).toList=vs.toList.take off++v.cells.toList++vs.toList.drop (off+v.cells.toList.length):=by
   rw[<-Array.foldl_toList,Array.toList_zipIdx];let ⟨f1,f2⟩:=Great.foldl_set off v.cells.toList 0 vs;apply wC;intro j;rw[AY (by simp;omega)]
   have:=f2 j;simp only[nu] at this;rw[mL];refine this.trans ?_;simp only[Array.length_toList,mL];by_cases hj:off<=j/\j<off+v.cells.size
   ·rw[ax hj,ax ⟨hj.1,hj.2,by omega⟩]
   ·rw[aA hj,aA (by omega)]
  have wX:=hc.dU hx (off:=off);rw[<-aIm] at wX;let ⟨us,hu1,hu2⟩:=Bh place parts gI _ _ rs wX (by simpa using hl) (λj i v i' xs ha hb=>hp (j+1) i v i' xs (by simpa using ha) (by simpa using hb)) h
  refine ⟨us,?_,hu2⟩;unfold Instr.fill;simp only[hpl];rw[aA (by simp[hvl];omega)]
  exact hu1
 | [],_::_,_,_,_,_,hl,_,_=>by simp at hl
 |_::_,[],_,_,_,_,hl,_,_=>by simp at hl
def Em {nt:Nat} {tm:Tf} {a:Act} (h:FR g nt tm a.tmps):∀(parts:List (Nat×Operand)) (l:List (Nat×aM)),jZ tm parts=some l->
  parts.length=l.length/\∀(j:Nat) (i:Nat) (v:Value) (i':Nat) (xs:aM),(parts.map λ(i,x)=>(i,a.eval x))[j]? =some (i,v)->l[j]? =some (i',xs)->i=i'/\gF g v.cells.toList xs
 | [],l,hp=>by cases hp;simp
 |(i,x)::parts,l,hp=>by
  let ⟨v,hv,hp⟩:=aj hp;let ⟨cs,l',hc,hl',hp⟩:=bc hp;cases hp;let ⟨h1,h2⟩:=Em h parts l' hl';refine ⟨by simp[h1],λj i1 u i2 xs ha hb=> ?_⟩
  cases j with
  |zero=>
   simp at ha hb;obtain ⟨rfl,rfl⟩:=ha;obtain ⟨rfl,rfl⟩:=hb;exact ⟨rfl,(pY h hv).gP hc⟩
  |succ j=>simp at ha hb;exact h2 j i1 u i2 xs (by simpa using ha) hb
def ajn {i:TI} (h:CK P t i):∃z,(∀w,(zeroValue t).run P w= .ok z w)/\(∀g,gF g z.cells.toList i.zero):=by
 let ⟨z,h1,h2,_⟩:=Z9 h;exact ⟨z,h1,h2.1⟩
def P7 {p p':Nat->Option (Nat×Nat)} (hp:∀j q,p j=some q->p' j=some q):∀(gI:List (Nat×aM)) (cs rs:aM),mJ p cs gI=some rs->mJ p' cs gI=some rs
 | [],cs,rs,h=>h
 |(i,xs)::gI,cs,rs,h=>by
  let ⟨q,h1,h⟩:=aj (show au (p i) (λq=>ay (Nat.beq xs.length q.2&&Nat.ble (Nat.add q.1 q.2) cs.length) (mJ p (bQ.dU cs q.1 xs) gI) none)=some rs from h)
  let ⟨hc,h⟩:=aJ h;show au (p' i) (λq=>ay (Nat.beq xs.length q.2&&Nat.ble (Nat.add q.1 q.2) cs.length) (mJ p' (bQ.dU cs q.1 xs) gI) none)=some rs
  rw[hp _ _ h1];show ay (Nat.beq xs.length q.2&&Nat.ble (Nat.add q.1 q.2) cs.length) (mJ p' (bQ.dU cs q.1 xs) gI) none=some rs;rw[hc];exact P7 hp gI _ _ h
def Nd (P:Program):∀(l:List Field),(∀f∈l,(P.info? f.type).isSome=true)->∃B4,l.mapM (λf=>(P.info? f.type).map λi=>(f.offset,i.size))=some B4/\
  ∀(j:Nat) (f:Field) (i:TypeInfo),l[j]? =some f->P.info? f.type=some i->B4[j]? =some (f.offset,i.size)
 | [],_=>⟨[],rfl,by simp⟩
 |f::l,h=>by
  let ⟨B4,h1,h2⟩:=Nd P l (λx hx=>h x (by simp[hx]))
  let ⟨i,hi⟩:=Option.isSome_iff_exists.1 (h f (by simp))
  refine ⟨(f.offset,i.size)::B4,by simp[Sv,hi,h1],λj x ix hx tY=> ?_⟩
  cases j with
  |zero=>simp at hx;subst hx;rw[hi] at tY;cases tY;rfl
  |succ j=>simp at hx;simpa using h2 j x ix hx tY
def Wt {r:Option aM} {z:SV} (h:Ky r=some z):∃cs,r=some cs/\z= .agg cs:=by
 let ⟨cs,h1,h2⟩:=aj h;cases h2;exact ⟨cs,h1,rfl⟩
def agC (hE:dP E g) {gI:List (Nat×aM)} {x:SV} (fT:Ae E t gI=some x) (hl:parts.size=gI.length) (hp:∀(j:Nat) (i:Nat) (v:Value) (i':Nat) (xs:aM),parts.toList[j]? =some (i,v)->gI[j]? =some (i',xs)->i=i'/\gF g v.cells.toList xs) (w:World):
  ∃v,(Instr.build t parts).run E.P w= .ok v w/\VR g v x:=by
 let ⟨i,hi,hb⟩:=aj fT;have hT:=hE.ty t i hi;let ⟨it,zv,q1,_,_,_,q5,q6,_⟩:=hT.info;have hz:=q6.1 g;have hd:=hT.desc;generalize i.desc=D at hd hb;cases D with
 |array n e=>
  let ⟨ie,hie,hb⟩:=aj (show au (E.ty.get e) (λie=>Ky (mJ (oM ie.size) i.zero gI))=some x from hb)
  obtain ⟨rs,hf,rfl⟩:=Wt hb;let ⟨us,hu1,hu2⟩:=Bh (oM ie.size) parts.toList gI zv.cells i.zero rs hz (by simpa using hl) hp hf
  let ⟨fe,_,e1,e2,_⟩:=(hE.ty e ie hie).info;refine ⟨.agg us,run_build w t parts us ?_,.agg hu2⟩;unfold Program.built;simp only[q1,(show E.P.underlying t=some (.array n e) from hd),q5,e1,e2];exact hu1
 |struct fs=>
  let ⟨a,hu,FC,ju⟩:=hd;obtain ⟨rs,hf,rfl⟩:=Wt (show Ky (mJ (Pf E fs) i.zero gI)=some x from hb);let ⟨B4,p1,p2⟩:=Nd E.P a.toList ju;have hf':=P7 (p':=(B4.toArray[·]?)) (λj q hq=>by
   let ⟨fl,h1,h2⟩:=aj hq;let ⟨fi,h3,h4⟩:=aj h2;cases h4;rw[<-FC,kK] at h1;cases hj:a.toList[j]? with
   |none=>rw[hj] at h1;simp at h1
   |some fd=>
    rw[hj] at h1;simp at h1;subst h1;let ⟨ff,_,e1,e2,_⟩:=(hE.ty _ fi h3).info;have:=p2 j fd ff hj e1;rw[e2] at this;simpa using this) gI _ _ hf
  let ⟨us,hu1,hu2⟩:=Bh (B4.toArray[·]?) parts.toList gI zv.cells i.zero rs hz (by simpa using hl) hp hf'
  refine ⟨.agg us,run_build w t parts us ?_,.agg hu2⟩;unfold Program.built;simp only[q1,hu,q5,p1];exact hu1
 |_=>cases hb
def VQ {Y:Type} [Inhabited Y] (zs:List Y) (s:Nat) (hs:zs.length=s):∀n,(List.range (n*s)).map (λk=>zs.toArray[k % s]!)=(List.replicate n zs).flatten
 |0=>by simp
 |n+1=>by
  have e:(n+1)*s=s+n*s:=by rw[eK];omega
  rw[e,List.range_add,pT,EJ,Sq,nn,<-VQ zs s hs n];congr 1
  ·apply wC;intro j;rw[kK];by_cases hj:j<s
   ·rw[List.getElem?_range hj];simp[Nat.mod_eq_of_lt hj,hs,hj]
   ·rw[ym (by simp;omega),ym (by omega)];rfl
  ·refine Bv λk _=> ?_
   simp
def ahS {vs:eH} {cs:aM} (h:gF g vs cs):∀n,gF g (List.replicate n vs).flatten (rep cs n)
 |0=>by simpa using .nil
 |n+1=>by rw[Sq,nn];exact h.append (ahS h n)
def Da {i:TI} (hT:CK P t i) (h1:P.info? t=some it) (h2:it.zero=some z) (gN:jc i=true) (n:Nat):
  gF g ((Array.range (n*it.size)).map (z.cells[· % z.cells.size]!)).toList (rep i.zero n)/\it.size=i.size/\1<=i.size/\it.bytes<=65536/\z.cells.size=i.size:=by
 let ⟨it',z',q1,q2,q3,_,q5,q6,_⟩:=hT.info;rw[h1] at q1;cases q1;rw[h2] at q5;cases q5;unfold jc at gN;rw[aY,aY] at gN;have k1:=(cN _ _).1 gN.1;have k2:=(cN _ _).1 gN.2.1;have k3:=(beq_iff _ _).1 gN.2.2;have hzl:z.cells.size=i.size:=by rw[<-k3,<-(q6.1 g).length];simp
 refine ⟨?_,q2,k2,by omega,hzl⟩
 have:=ahS (q6.1 g) n;rw[<-VQ z.cells.toList i.size (by simpa using hzl) n] at this
 rw[Array.toList_map,Array.toList_range,q2,hzl];simpa using this
def HR.row (h:HR g f w) {new:Nat} (hn:g.Z new=none) {w0 w':World} {arr:hY} {e:TypeId} {vs:eH} {cs:aM} (hw0:w0.heap=w.heap/\w0.os=w.os/\w0.tape=w.tape/\w0.output=w.output) (hw:w'=w0.alloc (.cells arr e))
  (hc:gF g vs cs) (rp:∀(j:Nat) (v:Value),vs[j]? =some v->arr[j]? =some v) {v:SV} {r:Value} {l:Nat} (hl:l<=arr.size)
  (hv:VR (g.bind new (w.heap.size,0) l e) r v):gS g f w v [(new,some (.cells e cs))] new r (g.bind new (w.heap.size,0) l e) w':=by
 have h0:HR g f w0:=⟨λid o ho=>by
   let ⟨b,c,q1,q2,q3⟩:=h.ob id o ho;exact ⟨b,c,q1,by rw[hw0.1];exact q2,q3.mono (.refl _) q1 (by rw[hw0.1])⟩,h.inj⟩
 have hs:w0.heap.size=w.heap.size:=by rw[hw0.1]
 have Aa:OR (g.bind new (w0.heap.size,0) l e) w' new w0.heap.size 0 (.cells e cs):=
  ⟨⟨arr,by rw[hw];exact heap_alloc_new w0 _,by rw[Gh.yV];omega,vs,hc.mono (Gh.Fp hn),λj v hv=>by rw[cE];exact rp j v hv⟩,Gh.BE _ _ _ _ _⟩
 let ⟨r1,r2⟩:=h0.alloc hn (o':=.cells e cs) hw Aa;rw[hs] at r1 r2;exact ⟨hv,r1,⟨r2.os.trans hw0.2.1,r2.tape.trans hw0.2.2.1,r2.output.trans hw0.2.2.2,by have:=r2.size;omega,r2.le,λb hb hm=>(r2.old b (by omega) hm).trans (by rw[hw0.1]),λb hb hm=>r2.own b (by omega) hm⟩,λid bY=>Gh.lV _ _ _ _ bY,λyQ=>by cases yQ⟩
def M8 (hE:dP E g) (h:HR g f w) (hn:g.Z new=none) {tm:Tf} (dQ:FR g nt tm a.tmps) {len:Nat} {parts:Array (Nat×Operand)} {gI:List (Nat×aM)} (hpc:jZ tm parts.toList=some gI) {v:SV} {us:cQ} (fZ:kT E new t len gI=some (v,us)):
  ∃r w' g',(Instr.buildSlice t len (parts.map λ(i,x)=>(i,a.eval x))).run E.P w= .ok r w'/\gS g f w v us new r g' w':=by
 let ⟨i,hi,ho⟩:=aj fZ;let ⟨e,he,ho⟩:=aj ho;let ⟨ie,hie,ho⟩:=aj ho;let ⟨hc,ho⟩:=aJ ho;let ⟨cs,hf,ho⟩:=aj ho;cases ho;rw[aY] at hc;have hsm:=(cN _ _).1 hc.2;have hd:=(hE.ty t i hi).desc;rw[vi he] at hd;have hT:=hE.ty e ie hie;let ⟨it,z,q1,q2,_,_,q5,_⟩:=hT.info;let ⟨z1,z2,z3,z4,z5⟩:=Da (g:=g) hT q1 q5 hc.1 len;let ⟨hl,hpt⟩:=Em dQ parts.toList gI hpc;let ⟨arr,f1,f2⟩:=Bh (oM ie.size) (parts.map λ(i,x)=>(i,a.eval x)).toList gI _ _ cs z1 (by simpa using hl) (λj i v i' xs h1 h2=>hpt j i v i' xs (by simpa using h1) h2) hf
 have hv:VR (g.bind new (w.heap.size,0) 0 e) (.slice (some ⟨w.heap.size,0,none⟩) len len) (.sl new 0 len (.k len)):=.sl (id:=new) (off:=0) (o:=0) (b:=w.heap.size) (cap:=.k len) (Gh.je _ _ _ _ _) (cF _) (λm hm=>by cases hm;rfl) (λe hm=>by cases hm)
 refine ⟨_,_,_,?_,h.row hn (w0:=w) (w':=w.alloc (.cells arr e)) ⟨rfl,rfl,rfl,rfl⟩ rfl f2 (λj v hv=>by simpa using hv) (pU _) hv⟩
 by_cases h0:len=0
 ·subst h0;have JY:gI= []:=by
   cases gI with
   |nil=>rfl
   |cons p ps=>
    let ⟨q,r1,r2⟩:=aj (show au (oM ie.size p.1) (λq=>ay (Nat.beq p.2.length q.2&&Nat.ble (Nat.add q.1 q.2) (rep ie.zero 0).length) (mJ (oM ie.size) (bQ.dU (rep ie.zero 0) q.1 p.2) ps) none)=some cs from hf)
    cases r1;let ⟨r3,_⟩:=aJ r2;rw[aY] at r3;have:=(cN _ _).1 r3.2;simp[rep] at this;omega
  subst JY;have hp0:parts= #[]:=by apply Bq;exact ur (by simpa using hl)
  subst hp0;simp at f1;simp[Instr.fill] at f1;simp[Instr.buildSlice,run_underlying (show E.P.underlying t=some (.slice e) from hd),sizeOf,typeInfo,q1,Instr.fill,newRow];rw[<-f1];congr 2;apply Bq;simp
 ·have UM:¬len*it.size=0:=by
   rw[z2];intro he;rcases Nat.mul_eq_zero.1 he with he|he<;>omega
  have hsm':¬len*it.size>2 ^ 24:=by rw[z2];have:len*ie.size<=16777216:=hsm;omega
  refine run_buildSlice w t e len _ _ it z hd q1 q5 hsm' UM ?_;rw[z2] at f1 ⊢;exact f1
def agb (hE:dP E g) (h:HR g f w) (hn:g.Z new=none) {v:SV} {us:cQ} (fZ:B9 E new t l c=some (v,us)):
  ∃r w' g',(Instr.makeSlice t (.int kl (.ofNat l)) (.int kc (.ofNat c))).run E.P w= .ok r w'/\gS g f w v us new r g' w':=by
 let ⟨i,hi,ho⟩:=aj fZ;let ⟨e,he,ho⟩:=aj ho;let ⟨ie,hie,ho⟩:=aj ho;let ⟨hc,ho⟩:=aJ ho;cases ho;rw[aY,aY] at hc;have h1:=(cN _ _).1 hc.1;have h2:=(cN _ _).1 hc.2.1;have hd:=(hE.ty t i hi).desc;rw[vi he] at hd;have hT:=hE.ty e ie hie;let ⟨it,z,q1,q2,_,_,q5,_⟩:=hT.info;let ⟨z1,z2,z3,z4,z5⟩:=Da (g:=g) hT q1 q5 hc.2.2 c;have hb:it.bytes*c<=65536*1000000:=Nat.mul_le_mul z4 h2;have ky:=run_make w t e it z hd q1 q5 kl kc (.ofNat l) (.ofNat c) (by simp) (by simp;omega) (by
  have:((it.bytes*c:Nat):Int)<=281474976710656:=by omega
  simpa using this) (by simp;omega)
 simp only[EK,Ls] at ky;have hv:VR (g.bind new (w.heap.size,0) 0 e) (.slice (some ⟨w.heap.size,0,none⟩) l c) (.sl new 0 l (.k c)):=.sl (id:=new) (off:=0) (o:=0) (b:=w.heap.size) (cap:=.k c) (Gh.je _ _ _ _ _) h1 (λm hm=>by cases hm;rfl) (λe hm=>by cases hm)
 exact ⟨_,_,_,ky,h.row hn (w0:=w) ⟨rfl,rfl,rfl,rfl⟩ rfl z1 (λj v hv=>by rw[mL] at hv;exact hv) (pU _) hv⟩
end
section
variable {E:Env} {g:Gh} {f:Hf} {w:World}
variable {P:Program} {y:Nat} {hi:Option Operand}
def NR (hE:dP E g) (h:HR g f w) {s:TypeId} {x v:SV} (hu:VR g u x) {us:cQ} (fZ:qw E s k x=some (v,us)):
  ∃r,(Instr.fieldAt s u k).run E.P w= .ok r w/\gS g f w v us new r g w:=by
 let ⟨i,p,hi,hp,ho⟩:=bc fZ;let ⟨fs,FC,ho⟩:=aj ho;let ⟨fl,z8,ho⟩:=aj ho;let ⟨fi,hfi,ho⟩:=aj ho;let ⟨hc,ho⟩:=aJ ho;cases ho;obtain rfl:=om hp;have hd:=(hE.ty s i hi).desc;rw[I1 FC] at hd;let ⟨a,rF,ha,ju⟩:=hd;subst ha;rw[kK] at z8;cases hj:a.toList[k]? with
 |none=>rw[hj] at z8;simp at z8
 |some fd=>
  rw[hj] at z8;simp at z8;subst z8;have jB:a[k]? =some fd:=by simpa using hj
  have hs:=oL (hE.ty _ fi hfi) w;have h1:=(cN _ _).1 hc;have bY:¬fi.size=0:=by omega
  cases hu with
  | @ptr _ _ b o hρ=>
   refine ⟨.pointer (some ⟨b,o+(p.2+fd.offset),none⟩),?_,gS.same h (.ptr hρ)⟩;simp only[Instr.fieldAt,Sem.run_bind,run_underlying rF,Result.andThen_ok,jB,Instr.sureAddr,Sem.run_pure,fieldPlace,hs,aA bY,Sem.run_ite,add_lit,fV]
def aaL (hE:dP E g) (h:HR g f w) {x v:SV} (hu:VR g u x) {us:cQ} (fZ:yG E t k x=some (v,us)):
  ∃r,(Instr.field t u k).run E.P w= .ok r w/\gS g f w v us new r g w:=by
 let ⟨i,cs,hi,hp,ho⟩:=bc fZ;let ⟨fs,FC,ho⟩:=aj ho;let ⟨fl,z8,ho⟩:=aj ho;let ⟨fi,hfi,ho⟩:=aj ho;let ⟨z,hz,ho⟩:=aj ho;cases ho;obtain rfl:=Bk hp;have hd:=(hE.ty t i hi).desc;rw[I1 FC] at hd;let ⟨a,rF,ha,ju⟩:=hd;subst ha;rw[kK] at z8;cases hj:a.toList[k]? with
 |none=>rw[hj] at z8;simp at z8
 |some fd=>
  rw[hj] at z8;simp at z8;subst z8;have jB:a[k]? =some fd:=by simpa using hj
  cases hu with
  |agg hc=>
   let ⟨r,r1,r2⟩:=A5 (hE.ty _ fi hfi) hz hc w;refine ⟨r,?_,gS.same h r2⟩;simp only[Instr.field,Sem.run_bind,run_underlying rF,Result.andThen_ok,jB,asAgg,Sem.run_pure,r1]
def aaK (hE:dP E g) (h:HR g f w) {x v:SV} (hu:VR g u x) {us:cQ} (fZ:sN E t k x=some (v,us)):
  ∃r,(Instr.index t u (.int kk (.ofNat k))).run E.P w= .ok r w/\gS g f w v us new r g w:=by
 let ⟨i,hi,ho⟩:=aj fZ;have hd:=(hE.ty t i hi).desc;generalize i.desc=D at hd ho;cases D with
 |string=>
  let ⟨s,hs,ho⟩:=aj (show au (strOf x) (λs=>au (s.data.toList[k]?) λb=>some (SV.int .u8 (.lit (.ofNat b.toNat)),([]:cQ)))=some (v,us) from ho)
  let ⟨b,hb,ho⟩:=aj ho;cases ho;obtain rfl:=mZ hs;cases hu;refine ⟨.int .u8 b.toNat,?_,gS.same h (.int _ _ (by simp[SI.ev]))⟩
  have bD:k<s.data.toList.length:=(cg.1 hb).1;have aup:k<s.size:=by simpa using bD
  have j5:s[k]? =some b:=by
   rw[getElem?_pos s k aup];have:s.data.toList[k]=b:=(cg.1 hb).2;rw[<-this];rfl
  have h0:(0:Int)<=Int.ofNat k:=by simp
  simp only[Instr.index,asIntOf,Sem.run_bind,Sem.run_pure,Result.andThen_ok,run_underlying (show E.P.underlying t=some .string from hd),ax h0];simp only[EK,Ls,j5,Sem.run_pure]
 |array n e=>
  let ⟨cs,ie,JY,hie,ho⟩:=bc (show bE (HW x) (E.ty.get e) (λcs ie=>ay (Nat.ble (Nat.succ k) n) (same (ia ie cs (Nat.mul k ie.size))) none)=some (v,us) from ho)
  let ⟨hc,ho⟩:=aJ ho;let ⟨z,hz,ho⟩:=aj ho;cases ho;obtain rfl:=Bk JY;have bD:k+1<=n:=(cN _ _).1 hc;cases hu with
  |agg Aa=>
   let ⟨r,r1,r2⟩:=A5 (hE.ty _ ie hie) hz Aa w;refine ⟨r,?_,gS.same h r2⟩;have ju:(0:Int)<=Int.ofNat k/\Int.ofNat k<(n:Int):=⟨by simp,by simp;omega⟩
   simp only[Instr.index,asIntOf,Sem.run_bind,Sem.run_pure,Result.andThen_ok,run_underlying (show E.P.underlying t=some (.array n e) from hd),ax ju,oL (hE.ty _ ie hie)];exact r1
 |_=>cases ho
def PT (hE:dP E g) {x z:SV} (hu:VR g u x) (fZ:lu E t x k=some z):
  ∃r,(Instr.indexAt t u (.int kk (.ofNat k))).run E.P w= .ok r w/\VR g r z:=by
 let ⟨i,hi,ho⟩:=aj fZ;have hd:=(hE.ty t i hi).desc;generalize i.desc=D at hd ho;cases D with
 |slice e=>
  let ⟨q,hq,ho⟩:=aj (show au (asE x) (λq=>uE E e q.1 q.2.1 q.2.2.1 k)=some z from ho)
  let ⟨hc,ho⟩:=aJ ho;let ⟨ie,hie,ho⟩:=aj ho;cases ho;obtain rfl:=aox hq;have bD:k+1<=q.2.2.1:=(cN _ _).1 hc;cases hu with
  | @sl _ _ _ b o c _ hρ hn fG rq=>
   refine ⟨.pointer (some ⟨b,o+(q.2.1+k*ie.size),none⟩),?_,.ptr hρ⟩;have ju:(0:Int)<=Int.ofNat k/\Int.ofNat k<(q.2.2.1:Int):=⟨by simp,by simp;omega⟩
   simp only[Instr.indexAt,asIntOf,Sem.run_bind,Sem.run_pure,Result.andThen_ok,run_underlying (show E.P.underlying t=some (.slice e) from hd),ax ju,oL (hE.ty _ ie hie),Sem.run_ite,add_lit];simp[fV]
 |array n e=>
  let ⟨q,hq,ho⟩:=aj (show au (vL x) (λq=>uE E e q.1 q.2 n k)=some z from ho)
  let ⟨hc,ho⟩:=aJ ho;let ⟨ie,hie,ho⟩:=aj ho;cases ho;obtain rfl:=om hq;have bD:k+1<=n:=(cN _ _).1 hc;cases hu with
  | @ptr _ _ b o hρ=>
   refine ⟨.pointer (some ⟨b,o+(q.2+k*ie.size),none⟩),?_,.ptr hρ⟩;have ju:(0:Int)<=Int.ofNat k/\Int.ofNat k<(n:Int):=⟨by simp,by simp;omega⟩
   simp only[Instr.indexAt,asIntOf,Sem.run_bind,Sem.run_pure,Result.andThen_ok,run_underlying (show E.P.underlying t=some (.array n e) from hd),Instr.sureAddr,ax ju,oL (hE.ty _ ie hie),Sem.run_ite,add_lit];simp[fV]
 |_=>cases ho
def run_sliceBound {k:IntKind} (h1:n<=y) (c:BoundsCode):(Instr.sliceBound (.int k (.ofNat n)) y c).run P w= .ok n w:=by
 have:(0:Int)<=Int.ofNat n/\Int.ofNat n<=(y:Int):=⟨by simp,by simp;omega⟩
 simp only[Instr.sliceBound,asIntOf,Sem.run_bind,Sem.run_pure,Result.andThen_ok,Sem.run_ite];rw[ax this];rfl
def y6 {tm:Tf} (dQ:FR g nt tm a.tmps) {x:Option Operand} {r:da} (h:js tm x=some r):
  (x=none/\r=none)\/∃y k n,x=some y/\r=some n/\a.eval y= .int k (.ofNat n):=by
 cases x with
 |none=>cases h;exact .inl ⟨rfl,rfl⟩
 |some y=>
  let ⟨v,hv,h⟩:=aj h;let ⟨n,hn,h⟩:=aj h;cases h;obtain ⟨k,rfl⟩:=uC hn;have:=pY dQ hv;generalize hu:a.eval y=u at this;cases this with
  |int _ _ e=>exact .inr ⟨y,k,n,rfl,rfl,by rw[hu,e];rfl⟩
def qb {tm:Tf} (dQ:FR g nt tm a.tmps) {mx:Option Operand} {l u m:da} (hl:js tm lo=some l) (hu:js tm hi=some u) (hm:js tm mx=some m) (tV:Bool) (len cap:Nat) (h1:l.getD 0<=u.getD len) (h2:u.getD len<=m.getD cap) (h3:m.getD cap<=cap) (h4:m≠none->u≠none):
  (Instr.sliceBounds tV len cap (lo.map a.eval) (hi.map a.eval) (mx.map a.eval)).run P w= .ok (l.getD 0,u.getD len,m.getD cap) w:=by
 rcases y6 dQ hl with ⟨rfl,rfl⟩|⟨y1,k1,n1,rfl,rfl,e1⟩<;>rcases y6 dQ hu with ⟨rfl,rfl⟩|⟨y2,k2,n2,rfl,rfl,e2⟩<;>rcases y6 dQ hm with ⟨rfl,rfl⟩|⟨y3,k3,n3,rfl,rfl,e3⟩<;>
  simp only[yj,Lr] at h1 h2 h3<;>
  first
   |exact absurd rfl (h4 (Option.some_ne_none _))
   |(
    simp only[Instr.sliceBounds,IM,Sm,Sem.run_bind,Sem.run_pure,Result.andThen_ok,yj,Lr,Option.isSome_some,Option.isSome_none]
    try simp only[e3,run_sliceBound (P:=P) (w:=w) (k:=k3) h3,Result.andThen_ok]
    try simp only[e2,run_sliceBound (P:=P) (w:=w) (k:=k2) h2,Result.andThen_ok]
    try simp only[e1,run_sliceBound (P:=P) (w:=w) (k:=k1) h1,Result.andThen_ok])
def zj {m:da} (h:mc m=true):m.getD 0=0:=by
 cases m with
 |none=>rfl
 |some n=>exact (beq_iff _ _).1 h
def Xe (a:Addr):a.add 0=a:=by unfold Addr.add;split<;>simp_all
def aiy {id h:Nat} {size:Nat} {m:Cp} (hρ:g.Z id=some (b,o)) (h1:l<=h) (h2:h<=M) (hm:∀k,m= .k k->M=k) (hz:∀e,m= .u e->g.et id=e/\size=g.sz e/\off+M*size<=g.lim id):
  VR g (.slice (some (if M=l then ⟨b,o+off,none⟩ else (⟨b,o+off,none⟩:Addr).add (l*size))) (h-l) (M-l)) (xE id off l h size m):=by
 by_cases h0:l=0
 ·subst h0;have e1:xE id off 0 h size m= .sl id off h m:=rfl;have e2:(if M=0 then (⟨b,o+off,none⟩:Addr) else (⟨b,o+off,none⟩:Addr).add (0*size))=⟨b,o+off,none⟩:=by
   split
   ·rfl
   ·rw[nV,Xe]
  rw[e1,e2];exact .sl hρ (by omega) (λk hk=>by rw[hm k hk];omega) (λe hn=>by let ⟨q0,q1,q2⟩:=hz e hn;rw[<-q1];exact ⟨q0,q2⟩)
 ·have e0:Nat.beq l 0=false:=by rw[beq_eq];simpa using h0
  by_cases bD:l+1<=h
  ·have e1:xE id off l h size m= .sl id (off+l*size) (h-l) (uP m l):=by
    unfold xE;rw[e0,show Nat.ble (Nat.succ l) h=true from (cN _ _).2 bD];rfl
   rw[e1,aA (by omega),add_lit,fV]
   refine .sl hρ (by omega) (λk hk=> ?_) (λe hk=> ?_)
   ·cases m with
    |u e'=>cases hk
    |k c=>cases hk;rw[hm c rfl];rfl
   ·cases m with
    |k c=>cases hk
    |u e'=>
     cases hk;let ⟨q0,q1,q2⟩:=hz _ rfl;rw[<-q1];refine ⟨q0,?_⟩;have:l*size+(M-l)*size=M*size:=by rw[<-eK];congr 1;omega
     show off+l*size+(M-l)*size<=g.lim id;omega
  ·have e1:xE id off l h size m= .sle:=by
    unfold xE;rw[e0,show Nat.ble (Nat.succ l) h=false from by rw[ble_eq];simpa using bD]
   rw[e1];have:h-l=0:=by omega
   rw[this];exact .sle
def I9 {id:Nat} {cap:Cp} {lo hi mx:da} {z:SV} (h:uA E e id off n cap lo hi mx=some z):
  ∃ie,E.ty.get e=some ie/\lo.getD 0<=hi.getD n/\hi.getD n<=reach cap n/\(∀m,mx=some m->hi.getD n<=m/\m<=reach cap n)/\(∀e',cap= .u e'->e'=e)/\z=xE id off (lo.getD 0) (hi.getD n) ie.size (orC mx cap):=by
 let ⟨ie,hie,h⟩:=aj h;let ⟨hc,h⟩:=aJ h;cases h;rw[aY,aY,aY] at hc;refine ⟨ie,hie,(cN _ _).1 hc.2.1,(cN _ _).1 hc.2.2.1,λm hm=> ?_,λe' he=>by subst he;exact (beq_iff _ _).1 hc.1,rfl⟩
 subst hm;have:=hc.2.2.2;simp only[Xt,aY] at this;exact ⟨(cN _ _).1 this.1,(cN _ _).1 this.2⟩
def afS (hE:dP E g) {tm:Tf} (dQ:FR g nt tm a.tmps) {x z:SV} (hv:VR g v x) {mx:Option Operand} {l u m:da} (hl:js tm lo=some l) (hu:js tm hi=some u) (hm:js tm mx=some m) (fZ:BX E t x l u m=some z):
  ∃r,(Instr.sliceAt t v (lo.map a.eval) (hi.map a.eval) (mx.map a.eval)).run E.P w= .ok r w/\VR g r z:=by
 let ⟨i,mw,ho⟩:=aj fZ;let ⟨hmh,ho⟩:=aJ ho;have h4:m≠none->u≠none:=by
  intro hm hu;subst hu;cases m with
  |none=>exact hm rfl
  |some k=>simp[Xu] at hmh
 have hd:=(hE.ty t i mw).desc;generalize i.desc=D at hd ho;cases D with
 |string=>
  let ⟨s,hs,ho⟩:=aj (show au (strOf x) (λs=>Z5 s l u m)=some z from ho)
  obtain rfl:=mZ hs;cases hv;cases m with
  |some _=>cases ho
  |none=>
   let ⟨hc,ho⟩:=aJ (show ay (Nat.ble (l.getD 0) (u.getD s.size)&&Nat.ble (u.getD s.size) s.size) (some (SV.str (s.extract (l.getD 0) (u.getD s.size)))) none=some z from ho);cases ho;rw[aY] at hc;have hmx:mx=none:=by
    rcases y6 dQ hm with ⟨rfl,_⟩|⟨_,_,_,_,hx,_⟩
    ·rfl
    ·simp at hx
   subst hmx;have hb:=qb (P:=E.P) (w:=w) dQ hl hu (mx:=none) (m:=none) rfl false s.size s.size ((cN _ _).1 hc.1) ((cN _ _).1 hc.2) (cF _) (by simp)
   refine ⟨.string (s.extract (l.getD 0) (u.getD s.size)),?_,.str _⟩;simp only[Sm] at hb;simp only[Instr.sliceAt,Sem.run_bind,run_underlying (show E.P.underlying t=some .string from hd),Result.andThen_ok,Instr.slice,Sm,Option.isSome_none,aK,aG,Sem.run_ite,Sem.run_pure,hb]
 |slice e=>
  let ⟨ie0,hie0,ho⟩:=aj (show au (E.ty.get e) (λ_=>O4 x E e l u m)=some z from ho)
  cases hv with
  | @sl id off n b o c cap hρ hn fG rq=>
   obtain ⟨ie,hie,c1,c2,c3,c4,rfl⟩:=I9 (show uA E e id off n cap l u m=some z from ho);have Aa:reach cap n<=c:=by
    cases cap with
    |u e'=>exact hn
    |k m=>rw[fG m rfl];exact cF _
   have hb:=qb (P:=E.P) (w:=w) dQ hl hu hm true n c c1 (by
    cases m with
    |none=>simp;omega
    |some k=>exact (c3 k rfl).1) (by
    cases m with
    |none=>simp
    |some k=>simp;have:=(c3 k rfl).2;omega) h4
   refine ⟨_,?_,aiy (M:=m.getD c) hρ c1 (by
    cases m with
    |none=>simp;omega
    |some k=>exact (c3 k rfl).1) (λk hk=> ?_) (λe' hk=> ?_)⟩
   ·simp only[Instr.sliceAt,Sem.run_bind,run_underlying (show E.P.underlying t=some (.slice e) from hd),Result.andThen_ok,Instr.slice,hb,oL (hE.ty _ ie hie),Sem.run_pure];congr 2;split<;>rfl
   ·cases m with
    |some k'=>cases hk;rfl
    |none=>exact fG k hk
   ·cases m with
    |some k'=>cases hk
    |none=>
     have hk:cap= .u e':=hk;let ⟨l1,l2⟩:=rq e' hk;have he:=c4 e' hk;subst he;have mD:=hE.size hie;exact ⟨l1,mD.symm,by rw[<-mD];exact l2⟩
  | @sle ad c=>
   let ⟨hc,ho⟩:=aJ (show ay (mc l&&(mc u&&m.isNone)) (some SV.sle) none=some z from ho);cases ho;rw[aY,aY] at hc;have z1:=zj hc.1;have z2:=zj hc.2.1;have hm0:m=none:=by cases m with|none=>rfl|some k=>simp at hc
   subst hm0;have hb:=qb (P:=E.P) (w:=w) dQ hl hu hm true 0 c (by rw[z1];omega) (by rw[z2];simp) (cF _) h4
   rw[z1,z2] at hb;refine ⟨.slice (if c=0 then ad else ad.map (·.add (0*ie0.size))) (0-0) (c-0),?_,.sle⟩
   simp only[Instr.sliceAt,Sem.run_bind,run_underlying (show E.P.underlying t=some (.slice e) from hd),Result.andThen_ok,Instr.slice,hb,oL (hE.ty _ ie0 hie0),Sem.run_pure,Lr]
  |cR=>
   let ⟨hc,ho⟩:=aJ (show ay (mc l&&(mc u&&mc m)) (some SV.cR) none=some z from ho);cases ho;rw[aY,aY] at hc;have z1:=zj hc.1;have z2:=zj hc.2.1;have z3:=zj hc.2.2;have hb:=qb (P:=E.P) (w:=w) dQ hl hu hm true 0 0 (by rw[z1];omega) (by rw[z2];omega) (by rw[z3];omega) h4
   rw[z1,z2,z3] at hb;refine ⟨.slice none 0 0,?_,.cR⟩;simp only[Instr.sliceAt,Sem.run_bind,run_underlying (show E.P.underlying t=some (.slice e) from hd),Result.andThen_ok,Instr.slice,hb,oL (hE.ty _ ie0 hie0),Sem.run_pure];simp
  |_=>cases ho
 |array n e=>
  let ⟨q,hq,ho⟩:=aj (show au (vL x) (λq=>uA E e q.1 q.2 n (.k n) l u m)=some z from ho)
  obtain rfl:=om hq;obtain ⟨ie,hie,c1,c2,c3,c4,rfl⟩:=I9 ho;have c2:u.getD n<=n:=c2;have c3:∀k,m=some k->u.getD n<=k/\k<=n:=c3;cases hv with
  | @ptr _ _ b o hρ=>
   have hb:=qb (P:=E.P) (w:=w) dQ hl hu hm false n n c1 (by
    cases m with
    |none=>simpa using c2
    |some k=>exact (c3 k rfl).1) (by
    cases m with
    |none=>simp
    |some k=>simpa using (c3 k rfl).2) h4
   refine ⟨_,?_,aiy (M:=m.getD n) hρ c1 (by
    cases m with
    |none=>simpa using c2
    |some k=>exact (c3 k rfl).1) (λk hk=> ?_) (λe' hk=>by cases m<;>cases hk)⟩
   ·simp only[Instr.sliceAt,Sem.run_bind,run_underlying (show E.P.underlying t=some (.array n e) from hd),Result.andThen_ok,Instr.sureAddr,Sem.run_pure,hb,oL (hE.ty _ ie hie)]
   ·cases m with
    |some k'=>cases hk;rfl
    |none=>cases hk;rfl
 |_=>cases ho
end
section
variable {E:Env} {g:Gh} {f:Hf} {w:World}
variable {P:Program} {m:Nat} {u2:Value}
def CE {id:Nat} {old:aM} (h:kM f id off n=some old):∃x e cs,f id=some x/\gP (some x) off n=some (e,cs)/\off+n<=cs.length/\old=(cs.drop off).take n:=by
 let ⟨p,hp,h⟩:=aj h;let ⟨hc,h⟩:=aJ h;cases h;cases hf:f id with
 |none=>rw[hf] at hp;cases hp
 |some x=>exact ⟨x,p.1,p.2,rfl,by rw[<-hf];exact hp,(cN _ _).1 hc,rfl⟩
def agB (s:ByteArray):gF g (byteCells s) (Mv s):=by
 unfold byteCells Mv;generalize s.data.toList=l;induction l with
 |nil=>exact .nil
 |cons b l ih=>exact .cons rfl (.int _ _ (by simp[SI.ev])) ih
def asz {P : Program} {size : Nat} {tx : TypeId} (hk : (∃ e', P.underlying tx = some (.slice e')) \/ P.underlying tx = some .string) (h : HR g f w) {x : SV} {u : Value} (hu : VR g u x) {q : Nat × aM} (hs : uy f size x = some q) :
    ∃ news, Src P size tx u q.1 news w /\ gF g news q.2 := by
  have row : BS f size x = some q -> ∃ news, Src P size tx u q.1 news w /\ gF g news q.2 := by
    intro hs
    obtain ⟨n, xs, h1, h2, h3⟩ := bc hs
    cases h3
    rcases V1 h1 with ⟨id, off, c, rfl⟩ | ⟨rfl, rfl⟩ | ⟨rfl, rfl⟩
    · cases hu with
      | @sl _ _ _ b o c' _ hρ hn fG rq =>
        obtain ⟨x0, e, cs, q1, q1', q2, rfl⟩ := CE (show kM f id off (n * size) = some xs from h2)
        obtain ⟨vs, v1, v2, v3⟩ := OR.eI (h.at q1 hρ).2 q1' q2
        have tn : ∀ (j : Nat) (v : Value), vs[j]? = some v -> w.cell? ((⟨b, o + off, none⟩ : Addr).add j) = some v := λj v hv => by rw [add_lit]; exact v3 j v hv
        exact ⟨vs, ⟨hk, λ_ => rfl, run_firstCells_some w size n _ n c' vs v1 tn, run_firstCells_some w.drew size n _ n c' vs v1 (by simpa using tn), v1, v2.one⟩, v2⟩
    · cases hu
      cases h2
      exact ⟨[], ⟨hk, λ_ => rfl, run_firstCells_none w size 0 0 0, run_firstCells_none w.drew size 0 0 0, by simp, λ_ h => by cases h⟩, .nil⟩
    · cases hu with
      | @sle ad c =>
        cases h2
        refine ⟨[], ⟨hk, λ_ => rfl, ?_, ?_, by simp, λ_ h => by cases h⟩, .nil⟩ <;>
          (cases ad with
           | none => exact run_firstCells_none _ size 0 0 c
           | some a => exact run_firstCells_some _ size 0 a 0 c [] (by simp) (by simp))
  cases hu with
  | str s =>
    obtain ⟨h1, h2⟩ := aJ (show ay (Nat.beq size 1) (some (s.size, Mv s)) none = some q from hs)
    cases h2
    have := (beq_iff _ _).1 h1
    subst this
    refine ⟨byteCells s, ⟨hk, λ_ => rfl, firstCells_string s w, firstCells_string s w.drew, by rw [byteCells_length, Nat.mul_one], λu hu => by
      obtain ⟨_, _, rfl⟩ := dS.1 hu
      rfl⟩, agB s⟩
  | _ => exact row hs
def DF (hE:dP E g) (h:HR g f w) (hn:g.Z new=none) {ie:TI} (ht:E.P.underlying t=some (.slice e)) (hie:E.ty.get e=some ie) (gN:jc ie=true) {olds news:eH} {old xs:aM} (ho:gF g olds old) (Ck:olds.length=n*ie.size) (hold:(Builtin.firstCells ie.size n (.slice base n c)).run E.P w.drew= .ok olds.toArray w.drew) (hs:Src E.P ie.size tx u m news w) (hx:gF g news xs) (hgr:c<n+m) (h1:n<=1000000) (h2:m<=1000000):
  ∃r w' g',(Builtin.append_ #[t,tx] ty #[.slice base n c,u]).run E.P w= .ok r w'/\gS g f w (.sl new 0 (n+m) (.u e)) [(new,some (.cells e (old++xs)))] new r g' w':=by
 have hT:=hE.ty e ie hie;let ⟨it,z,q1,q2,_,_,q5,_⟩:=hT.info;let ⟨_,_,z3,z4,z5⟩:=Da (g:=g) hT q1 q5 gN 0;have ky:=run_append_grow_src (P:=E.P) w t tx ty e it z ht q1 q5 base n c olds (by rw[q2];exact hold) u m news (by rw[q2];exact hs) hgr (by omega) (growslice_fits hgr (by
  have:(n+m)*it.bytes<=2000000*65536:=Nat.mul_le_mul (by omega) z4
  omega))
 have hge:=grownCap_ge w (n+m) c e;have hnl:=hs.newsLen;refine ⟨_,_,_,ky,h.row hn (w0:=w.drew) (l:=grownCap w (n+m) c e*ie.size) ⟨rfl,rfl,rfl,rfl⟩ rfl (ho.append hx) (λj v hv=> ?_) ?_ ?_⟩
 ·rw[IL,IK]
  ·exact hv
  ·simpa using (cg.1 hv).1
 ·simp only[Array.size_append,List.size_toArray,eQ,size_zeroCells,z5,Ck,hnl];rw[<-eK,<-eK];exact gz _ (by omega)
 ·exact .sl (id:=new) (off:=0) (o:=0) (b:=w.heap.size) (cap:=.u e) (Gh.je _ _ _ _ _) hge (λk hk=>by cases hk) (λe' he=>by
   cases he;refine ⟨Gh.BE _ _ _ _ _,?_⟩;rw[Gh.yV];show 0+grownCap w (n+m) c e*g.sz e<=_;rw[hE.size hie];omega)
def Ez (ht:P.underlying t=some (.slice e)) (hi:P.info? e=some it) (vu:n<=c) (hs:Src P it.size tx u 0 [] w):
  (Builtin.append_ #[t,tx] ty #[.slice base n c,u]).run P w= .ok (.slice base n c) w:=by
 have hc:=hs.cells;rcases hs.kind with ⟨e',hk⟩|hk<;>cases base<;>simp[Builtin.append_,run_underlying ht,run_underlying hk,sizeOf,typeInfo,hi,hs.len,vu,hc,storeCells]
def Nz (ht:P.underlying t=some (.slice e)) (hi:P.info? e=some it) {news:eH} (hs:Src P it.size tx u m news w) (kE:n+m<=c) (ig:(storeCells ⟨b,o+n*it.size,none⟩ news 0).run P w= .ok () w'):
  (Builtin.append_ #[t,tx] ty #[.slice (some ⟨b,o,none⟩) n c,u]).run P w= .ok (.slice (some ⟨b,o,none⟩) (n+m) c) w':=by
 rcases hs.kind with ⟨e',hk⟩|hk<;>simp[Builtin.append_,run_underlying ht,run_underlying hk,sizeOf,typeInfo,hi,hs.len,kE,hs.cells,add_lit,ig]
def aAX (hE:dP E g) {ix:TI} (tY:E.ty.get tx=some ix) (hr:vY ix.desc=true):(∃e',E.P.underlying tx=some (.slice e'))\/E.P.underlying tx=some .string:=by
 have hd:=(hE.ty tx ix tY).desc;generalize ix.desc=D at hd hr;cases D<;>simp[vY] at hr
 ·exact .inr hd
 ·exact .inl ⟨_,hd⟩
def aqF {x:SV} (h:UF x=true):(∃i o n c,x= .sl i o n c)\/x= .cR\/x= .sle:=by
 cases x<;>first|exact .inl ⟨_,_,_,_,rfl⟩|exact .inr (.inl rfl)|exact .inr (.inr rfl)|cases h
def gS.kill (h:HR g f w) {id:Nat} {v:SV} {r:Value} {us:cQ} {g':Gh} (hp:gS g (lJ f (id,none)) w v us new r g' w'):gS g f w v ((id,none)::us) new r g' w':=
 ⟨hp.val,hp.hr,(h.kill id).2.trans hp.fr,hp.ro,λyQ=>by cases yQ⟩
def acS (hE:dP E g) (h:HR g f w) (hn:g.Z new=none) {ix:TI} {s x:SV} (h1:VR g u1 s) (h2:VR g u2 x) (tY:E.ty.get tx=some ix) (Ho:vY ix.desc=true) {v:SV} {us:cQ} (fZ:mC E f new t s x=some (v,us)):∃r w' g',(Builtin.append_ #[t,tx] ty #[u1,u2]).run E.P w= .ok r w'/\gS g f w v us new r g' w':=by
 let ⟨i,hi,ho⟩:=aj fZ;let ⟨e,he,ho⟩:=aj ho;let ⟨ie,hie,ho⟩:=aj (show au (E.ty.get e) _=some (v,us) from ho);let ⟨gN,ho⟩:=aJ ho;let ⟨q,hq,ho⟩:=aj ho;let ⟨hq1,ho⟩:=aJ ho;have hq1:q.1<=1000000:=(cN _ _).1 hq1;have ht:=(hE.ty t i hi).desc;rw[vi he] at ht;have ht:E.P.underlying t=some (.slice e):=ht;have hT:=hE.ty e ie hie;let ⟨it,z,q1,q2,_,_,q5,_⟩:=hT.info;let ⟨_,_,z3,z4,z5⟩:=Da (g:=g) hT q1 q5 gN 0;let ⟨news,hs,hx⟩:=asz (aAX hE tY Ho) h h2 hq;rw[bk] at ho;split at ho
 ·rename_i h0;have h0:=(beq_iff _ _).1 h0;let ⟨Ix,ho⟩:=aJ ho;cases ho;have hnl:=hs.newsLen;rw[h0] at hs hnl;have:news= []:=ur (by simpa using hnl)
  subst this;rw[<-q2] at hs;rcases aqF Ix with ⟨id,off,n,cp,rfl⟩|rfl|rfl
  ·cases h1 with
   |sl hρ vu fG rq=>exact ⟨_,w,g,Ez ht q1 vu hs,gS.same h (.sl hρ vu fG rq)⟩
  ·cases h1;exact ⟨_,w,g,Ez ht q1 (cF _) hs,gS.same h .cR⟩
  ·cases h1;exact ⟨_,w,g,Ez ht q1 (pU _) hs,gS.same h .sle⟩
 ·rename_i h0;have h0:q.1≠0:=λe=>h0 ((beq_iff _ _).2 e)
  cases h1 with
  |cR=>
   cases (show some (SV.sl new 0 q.1 (.u e),[(new,some (SO.cells e q.2))])=some (v,us) from ho);have:=DF hE h hn (ty:=ty) (n:=0) (c:=0) (base:=none) (olds:= []) (old:= []) ht hie gN .nil (by simp) (run_firstCells_none _ _ _ _ _) hs hx (by omega) (by omega) hq1
   simpa using this
  | @sl id off n b o c cap hρ vu fG rq=>
   let ⟨mv,ho⟩:=aJ (show ay (Nat.ble n 1000000) (ay (P4 n q.1 cap) (au (kM f id off (Nat.mul n ie.size)) λold=>vM new e (Nat.add n q.1) (old++q.2) []) (bE (nE (f id)) (kM f id off (Nat.mul n ie.size)) λp old=>Bi new e ie.size id off n cap q.1 q.2 p old)) none=some (v,us) from ho)
   have mv:n<=1000000:=(cN _ _).1 mv;rw[bk] at ho;split at ho
   ·rename_i xA;let ⟨old,hold,ho2⟩:=aj ho;obtain ⟨x0,e',cs',r1,r1',r2,rfl⟩:=CE hold;have vt:=(h.at r1 hρ).2;let ⟨vs,v1,v2,v3⟩:=OR.eI vt r1' r2;have P3:(Builtin.firstCells ie.size n (.slice (some ⟨b,o+off,none⟩) n c)).run E.P w.drew= .ok vs.toArray w.drew:=
     run_firstCells_some w.drew ie.size n _ n c vs v1 (λj v hv=>by rw[add_lit];simpa using v3 j v hv)
    cases cap with
    |u e0=>cases xA
    |k c0=>
     have FE:=fG c0 rfl;subst FE;have hgr:c<n+q.1:=(cN _ _).1 xA;cases ho2;exact DF hE h hn ht hie gN v2 v1 P3 hs hx hgr mv hq1
   ·let ⟨p,old,hp,hold,ho⟩:=bc ho;have hf:=lh hp;obtain ⟨x0,e',cs',r1,r1',r2,rfl⟩:=CE hold;rw[hf] at r1;cases r1;cases r1';have pq:Cells g w id b o p.1 p.2:=(h.at hf hρ).2;let ⟨vs,v1,v2,v3⟩:=pq.eI off (n*ie.size) r2;have P3:(Builtin.firstCells ie.size n (.slice (some ⟨b,o+off,none⟩) n c)).run E.P w.drew= .ok vs.toArray w.drew:=
     run_firstCells_some w.drew ie.size n _ n c vs v1 (λj v hv=>by rw[add_lit];simpa using v3 j v hv)
    have grow:c<n+q.1->∃r w' g',(Builtin.append_ #[t,tx] ty #[.slice (some ⟨b,o+off,none⟩) n c,u2]).run E.P w= .ok r w'/\gS g f w (.sl new 0 (n+q.1) (.u e)) [(new,some (.cells e ((p.2.drop off).take (n*ie.size)++q.2)))] new r g' w':=
     λhgr=>DF hE h hn ht hie gN v2 v1 P3 hs hx hgr mv hq1
    have hxl:q.2.length=q.1*ie.size:=by rw[<-hx.length];exact hs.newsLen
    cases cap with
    |k c0=>
     have FE:=fG c0 rfl;subst FE;have ho:ay (Nat.ble (Nat.add n q.1) c)
      (ay (Nat.ble (Nat.add off (Nat.mul (Nat.add n q.1) ie.size)) p.2.length) (some (SV.sl id off (Nat.add n q.1) (.k c),[(id,some (SO.cells p.1 (dU p.2 (Nat.add off (Nat.mul n ie.size)) q.2)))])) none)
      (vM new e (Nat.add n q.1) ((p.2.drop off).take (n*ie.size)++q.2) [])=some (v,us):=ho
     rw[bk] at ho;split at ho
     ·rename_i hle;have hle:n+q.1<=c:=(cN _ _).1 hle;let ⟨UT,ho⟩:=aJ ho;have UT:off+(n+q.1)*ie.size<=p.2.length:=(cN _ _).1 UT;cases ho;let ⟨w',s1,s2,s3,s4,s5,s6,s7⟩:=pq.store (P:=E.P) (off:=off+n*ie.size) hx (by rw[hxl];rw[eK] at UT;omega)
      let ⟨t1,t2⟩:=h.write (o':=.cells p.1 (dU p.2 (off+n*ie.size) q.2)) hf hρ s3 s4 s2 s5 s6 s7;refine ⟨_,w',g,Nz ht q1 (by rw[q2];exact hs) hle (by rw[q2,fV];exact s1),⟨?_,t1,t2,λ_ _=>rfl,λ_=>rfl⟩⟩
      exact .sl hρ hle fG (λe he=>by cases he)
     ·rename_i hle;have hle:¬n+q.1<=c:=λe=>hle ((cN _ _).2 e)
      cases ho;exact grow (by omega)
    |u e0=>
     let ⟨l1,l2⟩:=rq e0 rfl;let ⟨hc,ho⟩:=aJ (show ay (Nat.ble (Nat.add off (Nat.mul n ie.size)) p.2.length&&Nat.beq e p.1) (vM new e (Nat.add n q.1) ((p.2.drop off).take (n*ie.size)++q.2) [(id,none)]) none=some (v,us) from ho);cases ho;rw[aY] at hc;have hc1:off+n*ie.size<=p.2.length:=(cN _ _).1 hc.1;have yg:e=p.1:=(beq_iff _ _).1 hc.2;have he0:e0=e:=by rw[<-l1,pq.et,yg]
     subst he0;rw[hE.size hie] at l2;by_cases hle:n+q.1<=c
     ·let ⟨⟨cur,m1,m0,vs0,m2,m3⟩,m4⟩:=pq;have kE:o+(off+n*ie.size)+news.length<=cur.size:=by
       have:=gz ie.size hle;rw[hs.newsLen];rw[eK] at this;omega
      have ky:=run_storeCells_at E.P b (o+(off+n*ie.size)) p.1 news 0 cur w m1 (by omega) hs.one
      simp only[nu] at ky;have Ck:=v1;have vt:OR (g.bind new (b,o+off) (g.lim id-off) e0) (w.setRow b (cur.toList.take (o+(off+n*ie.size))++news++cur.toList.drop (o+(off+n*ie.size)+news.length)).toArray) new b (o+off) (.cells e0 ((p.2.drop off).take (n*ie.size)++q.2)):=by
       refine ⟨⟨(cur.toList.take (o+(off+n*ie.size))++news++cur.toList.drop (o+(off+n*ie.size)+news.length)).toArray,?_,?_,vs++news,(v2.append hx).mono (Gh.Fp hn),λj v hv=> ?_⟩,Gh.BE _ _ _ _ _⟩
       ·rw[yg];exact setRow_heap w b cur _ p.1 _ m1
       ·rw[Gh.yV];simp;omega
       ·rw[IK,AY (by simp;omega)]
        by_cases hj:j<n*ie.size
        ·rw[yn (by omega)] at hv
         rw[aA (by omega)]
         have:=v3 j v hv;rw[ue m1] at this;simpa using this
        ·have iy:j<vs.length+news.length:=by have:=(cg.1 hv).1;simpa using this
         rw[qW (by omega)] at hv
         rw[ax (by omega),<-hv]
         congr 1;omega
      let ⟨t1,t2⟩:=h.rename (o':=.cells e0 ((p.2.drop off).take (n*ie.size)++q.2)) hn hf hρ (by simp) (λk hk=>setRow_other w b k _ hk) vt rfl rfl rfl
      refine ⟨_,_,_,Nz ht q1 (by rw[q2];exact hs) hle (by rw[q2,fV];exact ky),⟨?_,t1,t2,λk hk=>Gh.lV _ _ _ _ hk,λyQ=>by cases yQ⟩⟩
      exact .sl (id:=new) (off:=0) (o:=o+off) (b:=b) (cap:=.u e0) (Gh.je _ _ _ _ _) hle (λk hk=>by cases hk) (λe' he=>by
       cases he;refine ⟨Gh.BE _ _ _ _ _,?_⟩;rw[Gh.yV];show 0+c*g.sz e0<=_;rw[hE.size hie];omega)
     ·let ⟨k1,_⟩:=h.kill id;let ⟨r,w',g',a1,a2⟩:=DF hE k1 hn (ty:=ty) ht hie gN v2 v1 P3 hs hx (by omega) mv hq1
      exact ⟨r,w',g',a1,a2.kill h⟩
  |_=>cases ho
end
end Go.bQ
end
