/- Part. -/
import Derived.WalkKit
import Derived.RangeFuncLeaves
import Derived.OrdersIn
import Derived.WalkLawsBesides
import Derived.Great.BuildSlice
import Derived.Deep.AppendSrc
import Derived.Laws.CopyRow
import Derived.Laws.AppendOwn
import Derived.Great.FillDense
import Derived.Laws.MakeOwn
import Derived.MapKept
import Derived.RangeFuncCalls
set_option linter.all false
noncomputable section
namespace Go.bZ
def kW:=@Option.some.inj
def ru:=@of_decide_eq_true
def tM:=@List.append_nil
def Ol:=@List.cons.inj
def aH:=@if_pos
def aM:=@if_neg
def bM:=@congrArg
def vW:=@Nat.le_of_eq
def jf:=@Nat.le_trans
def FV:=@of_decide_eq_false
def YE:=@Bool.false_ne_true
def yB:=@List.map_take
def DW:=@List.map_drop
def vY:=@List.pairwise_cons
def cH:=@List.mem_cons
def kq:=@List.length_cons
def anP:=@List.range_succ_eq_map
def mz:=@List.filter_cons
def rV:=@decide_eq_true
def DL:=@List.map_map
def YD:=@decide_eq_false
def iZ:=@List.map_cons
def na:=@Array.getElem?_eq_some_iff
def HZ:=@Array.getElem?_modify
def DK:=@Ne.symm
def cf:=@List.getElem?_eq_some_iff
def nS:=@Array.getElem?_eq_getElem
def HY:=@Option.map_some
def dJ:=@List.getElem?_eq_getElem
def dg:=@Nat.le_refl
def cP:=@List.mem_map
def Om:=@Nat.eq_zero_or_pos
def mZ:=@Nat.add_zero
def YC:=@Array.getElem?_setIfInBounds
def nR:=@Nat.sub_self
def rU:=@List.getElem?_cons_succ
def iT:=@List.all_eq_true
def iE:=@List.length_drop
def yA:=@Nat.sub_mul
def vX:=@List.length_eq_zero_iff
def fc:=@List.getElem?_drop
def pE:=@List.mem_of_mem_drop
def fU:=@Nat.add_assoc
def fa:=@List.getElem?_take
def lx:=@Array.getElem?_toList
def Oj:=@List.getElem_of_mem
def rT:=@List.getElem_mem
def uD:=@List.map_nil
def HX:=@Array.getElem?_append_left
def HW:=@List.getElem?_toArray
def Oi:=@Nat.min_def
def dZ:=@List.length_take
def qD:=@List.getElem?_append
def fE:=@Nat.min_eq_left
def cC:=@Nat.zero_add
def Oh:=@Array.getElem?_eq_none
def my:=@Nat.lt_of_lt_of_le
def bF:=@Bool.and_eq_true
def yz:=@List.range'_succ
def Og:=@List.range_eq_range'
def jW:=@decide_eq_true_eq
def uC:=@Array.ext'
def hZ:=@Bool.true_and
def mw:=@List.map_append
def DJ:=@List.map_set
def gB:=@List.mem_append_left
def iq:=@List.mem_append_right
def ez:=@List.mem_singleton
def lT:=@Nat.zero_mul
def rS:=@List.drop_zero
def fM:=@List.mem_cons_of_mem
def nQ:=@List.length_map
def kn:=@List.take_of_length_le
def lu:=@List.append_assoc
def pD:=@List.getElem?_append_left
def jo:=@List.mem_cons_self
def nP:=@List.getElem?_append_right
def gA:=@Nat.add_mul
def kK:=@Bool.and_eq_true_iff
def pC:=@Bool.or_eq_true
def DI:=@List.nodup_append
def vV:=@Option.map_eq_some_iff
def YB:=@List.mem_or_eq_of_mem_set
def mY:=@List.length_set
def yy:=@List.cons_append
def eO:=@List.mem_append
def jV:=@List.nil_append
def YA:=@List.Sublist.append_left
def Yz:=@List.sublist_append_right
def cN:=@List.mem_of_getElem?
def kJ:=@Nat.mul_le_mul_right
def oB:=@List.take_take
def qC:=@List.mem_of_mem_take
def qB:=@List.flatten_cons
def Yy:=@List.take_left
def Yx:=@List.drop_left
def DH:=@List.take_append_drop
def Of:=@List.nil_sublist
def lr:=@List.mem_filter
def Oe:=@Option.isSome_iff_exists
def nu:=@Classical.byContradiction
def su:=@Option.ne_none_iff_exists'
def xA:=@Nat.lt_of_not_le
def Ay:=@List.length_nil
def Kr:=@Array.length_toList
def tU:=@List.drop_drop
def xz:=@Nat.le_succ
def pt:=@List.nodup_cons
def Kq:=@List.filter_append
def xy:=@List.filter_congr
def sr:=@List.filter_eq_nil_iff
def sq:=@List.eq_nil_of_length_eq_zero
def SH:=@List.eq_nil_iff_forall_not_mem
def ma:=@Array.getD_eq_getD_getElem?
def tT:=@List.append_of_mem
def vA:=@List.filter_eq_self
def agh:=@List.length_erase_of_mem
def SF:=@List.mem_range
def xx:=@Array.getElem?_replicate
def aB:=@if_true
def DX:=@List.foldl_cons
def gD:=@List.length_append
def tS:=@List.mem_flatMap
def xw:=@Nat.le_add_right
def qF:=@Nat.zero_le
def Kp:=@Option.some.injEq
def mH:=@List.getElem?_map
def xv:=@List.take_length
def tR:=@List.drop_take
def tQ:=@List.length_replicate
def pr:=@List.getElem?_set_self
def vz:=@List.set_set
def xu:=@List.set_append_right
def qE:=@List.drop_eq_getElem_cons
def vy:=@List.take_add_one
def pq:=@Nat.one_mul
def DV:=@List.take_length_add_append
def SD:=@List.take_succ_cons
def agf:=@List.drop_length_add_append
def DU:=@List.take_left'
def DR:=@List.take_zero
def SC:=@List.mapM_cons
def po:=@List.drop_of_length_le
def tP:=@beq_iff_eq
def au:=@Option.bind_some
def DQ:=@List.ext_getElem?
def xt:=@List.getElem?_eq_none
def Aw:=@Nat.add_comm
def tO:=@Nat.le_of_ble_eq_true
def SB:=@List.Sublist.refl
def age:=@List.take_append_of_le_length
def agd:=@List.drop_append_of_le_length
def SA:=@List.append_eq_nil_iff
def DP:=@Nat.le_zero
def Sz:=@Int.ofNat.inj
def Sy:=@List.replicate_succ
def xr:=@UInt8.lt_irrefl
def Ko:=@UInt8.not_lt
def aX:=@decide_false
def aC:=@Bool.false_eq_true
def aA:=@if_false
def aU:=@decide_true
def gM:=@Bool.not_false
def dw:=@Bool.not_true
def gd:=@Bool.false_and
def ke:=@Bool.eq_false_or_eq_true
def jN:=@bne_self_eq_false
def tN:=@List.all_cons
def ow:=@Bool.and_self
def xq:=@Bool.and_false
def DO:=@List.take_succ
def Kn:=@Option.toList_some
def Sx:=@ByteArray.size_append
def im:=@beq_self_eq_true
def ly:=@Bool.eq_iff_iff
def Km:=@decide_eq_decide
def Sw:=@beq_false_of_ne
def Sv:=@List.length_pos_iff
def xp:=@List.getElem?_set_ne
def Su:=@List.set_getElem_self
def Ss:=@List.getLast_mem
def Kl:=@Int.toNat_natCast
def DN:=@List.map_congr_left
def vx:=@List.getElem?_cons_zero
def agc:=@List.getLast?_eq_getElem?
def Sr:=@List.singleton_append
def Kk:=@Option.getD_none
def xn:=@Option.getD_some
def ov:=@List.mem_range'_1
def mG:=@List.exists_mem_of_ne_nil
def Sq:=@Nat.testBit_or
def agb:=@Nat.testBit_mod_two_pow
def Kj:=@List.getD_eq_getElem?_getD
def Av:=@List.ne_nil_of_mem
def DM:=@Int.ofNat_eq_natCast
def Sp:=@Option.map_none
inductive SI where
 |lit (n:Int)
 deriving Inhabited
def SI.ev (η:Nat->Int):SI->Int
 | .lit n=>n
def gF:IntKind->IntKind->Bool
 | .i8,.i8| .i16,.i16| .i32,.i32| .i64,.i64| .u8,.u8| .u16,.u16| .u32,.u32| .u64,.u64=>true
 |_,_=>false
def Gu:Int->Int->Bool
 | .ofNat a,.ofNat b=>Nat.beq a b
 | .negSucc a,.negSucc b=>Nat.beq a b
 |_,_=>false
def Af:Int->Int->Bool
 | .ofNat a,.ofNat b=>Nat.ble (a+1) b
 | .negSucc _,.ofNat _=>true
 | .ofNat _,.negSucc _=>false
 | .negSucc a,.negSucc b=>Nat.ble (b+1) a
def SI.eqb:SI->SI->Bool
 | .lit a,.lit b=>Gu a b
inductive Cp where
 |k (n:Nat)
 |u (e:TypeId)
 deriving Inhabited
inductive SV where
 |bool (b:Bool)
 |int (k:IntKind) (e:SI)
 |str (s:ByteArray)
 |ptr (id off:Nat)
 |qc
 |sl (id off n:Nat) (cap:Cp)
 |sle
 |dD
 |mp (id:Nat)
 |mn
 |fn (f:Fn) (first eG:List SV)
 |pb
 |agg (cs:List SV)
 |cS (vs:List SV)
 |undef
 deriving Inhabited
inductive Tr (J:Type) where
 |nil
 |node (l:Tr J) (v:Option J) (r:Tr J)
 deriving Inhabited
@[reducible] def aP {J:Type} (b:Bool) (x y:J):J:= @Bool.rec (λ_=>J) y x b
def Tr.get {J:Type} (t:Tr J):Nat->Option J:=
 @Tr.rec J (λ_=>Nat->Option J) (λ_=>none) (λ_ v _ gl gr i=> @Bool.rec (λ_=>Option J) (@Bool.rec (λ_=>Option J) (gr (Nat.sub (Nat.div i 2) 1)) (gl (Nat.div i 2)) (Nat.beq (Nat.mod i 2) 1)) v (Nat.beq i 0)) t
def Tr.Is {J:Type} (n:Nat):Tr J->Nat->Option J->Tr J:=
 @Nat.rec (λ_=>Tr J->Nat->Option J->Tr J) (λt _ _=>t) (λ_ ih t i x=>
  @Tr.rec J (λ_=>Tr J)
   (@Bool.rec (λ_=>Tr J) (@Bool.rec (λ_=>Tr J) (.node .nil none (ih .nil (Nat.sub (Nat.div i 2) 1) x)) (.node (ih .nil (Nat.div i 2) x) none .nil) (Nat.beq (Nat.mod i 2) 1)) (.node .nil x .nil) (Nat.beq i 0))
   (λl v r _ _=> @Bool.rec (λ_=>Tr J) (@Bool.rec (λ_=>Tr J) (.node l v (ih r (Nat.sub (Nat.div i 2) 1) x)) (.node (ih l (Nat.div i 2) x) v r) (Nat.beq (Nat.mod i 2) 1)) (.node l x r) (Nat.beq i 0)) t) n
def Tr.set {J:Type} (t:Tr J) (i:Nat) (x:Option J):Tr J:=Tr.Is (Nat.succ i) t i x
inductive SO where
 |cells (e:TypeId) (cs:List SV)
 |map (es:List (SV×SV×Nat)) (clock:Nat)
 |nA (s:ByteArray) (pos:Nat)
 |mapIter (map:Option Nat) (since:Nat) (seen:List Nat) (aMU:Nat)
 |dfr
 |ro (cs:List SV)
 deriving Inhabited
structure FL where
 type:TypeId
 off:Nat
 named:Bool
inductive UD where
 |bool|int (k:IntKind)|string|pointer|slice (e:TypeId)|array (n:Nat) (e:TypeId)|map (k e:TypeId)|struct (fs:List FL)|func|interface|other
 deriving Inhabited
structure TI where
 desc:UD
 size:Nat
 bytes:Nat
 zero:List SV
 comparable:Bool
 deriving Inhabited
structure Env where
 P:Program
 ty:Tr TI
 fn:Tr Func
 lt:List (SI×SI×Bool)
 eq:List (SI×SI×Bool)
 done:List (Nat×SV):= []
 join:List Nat:= []
 v8:List (Nat×Nat):= []
 Dl:List Nat:= []
 stop:List Nat:= []
def Cv (E:Env):SI->SI->Option Bool
 | .lit a,.lit b=>some (Af a b)
def eqI (E:Env):SI->SI->Option Bool
 | .lit x,.lit y=>some (Gu x y)
def nF {J:Type} (P:Program):Sem J->Option J
 | .pure a=>some a
 | .program k=>nF P (k P)
 |_=>none
mutual
def ue:Value->SV
 | .bool b=>.bool b
 | .int k n=>.int k (.lit n)
 | .string s=>.str s
 | .pointer none=>.qc
 | .slice none 0 0=>.dD
 | .map none=>.mn
 | .nilFunc=>.pb
 | .agg ⟨cs⟩=>aP (cs.all Value.oneCell') (.agg (rM cs)) .undef
 | .tuple ⟨cs⟩=>.cS (rM cs)
 |_=>.undef
def rM:List Value->List SV
 | []=> []
 |v::vs=>ue v::rM vs
end
abbrev Hp:=Tr SO
abbrev Hf:=Nat->Option SO
abbrev Up:=Nat×Option SO
structure Hs where
 hp:Hp
 nx:Nat
 lg:List Nat
 deriving Inhabited
abbrev Tf:=Nat->Option SV
abbrev je:=List (SV×SV×Nat)
abbrev gm:=Option (SV×List Up)
abbrev aY:=List SV
abbrev bq:=List Nat
abbrev dN:=List Up
abbrev dd:=List Oper
abbrev dE:=Array Oper
abbrev ee:=Option SV
abbrev bP:=Option Nat
abbrev fq:=List Value
abbrev hY:=Array Value
abbrev de:=Tr SV
def cD (tm:Tf):Operand->ee
 | .tmp t=>tm t
 | .const v=>some (ue v)
 | .global _=>none
 | .func f=>some (.fn (.func f) [] [])
def SV.cells (x:SV):Option aY:=match x with
 | .bool b=>some [.bool b]
 | .int k e=>some [.int k e]
 | .str s=>some [.str s]
 | .ptr i o=>some [.ptr i o]
 | .qc=>some [.qc]
 | .sl a b c d=>some [.sl a b c d]
 | .sle=>some [.sle]
 | .dD=>some [.dD]
 | .mp i=>some [.mp i]
 | .mn=>some [.mn]
 | .fn f a c=>some [.fn f a c]
 | .pb=>some [.pb]
 | .agg cs=>some cs
 |_=>none
def lY (d:UD):Bool:=match d with
 | .array _ _=>true
 | .struct _=>true
 |_=>false
def UZ:SI->bP
 | .lit (.ofNat n)=>some n
 |_=>none
def asS (x:SV):Option (Nat×Nat×Nat×Cp):=match x with
 | .sl i o n c=>some (i,o,n,c)
 |_=>none
def kY (x:SV):bP:=match x with
 | .int _ e=>UZ e
 |_=>none
def oT (x:SV):Option Bool:=match x with
 | .bool b=>some b
 |_=>none
def intOf (x:SV):Option (IntKind×SI):=match x with
 | .int k e=>some (k,e)
 |_=>none
def strOf (x:SV):Option ByteArray:=match x with
 | .str s=>some s
 |_=>none
def uX (x:SV):Option (Nat×Nat):=match x with
 | .ptr i o=>some (i,o)
 |_=>none
def G4 (x:SV):Option aY:=match x with
 | .agg cs=>some cs
 |_=>none
def Oq (x:SV):Option aY:=match x with
 | .cS cs=>some cs
 |_=>none
def ats (x:SV):bP:=match x with
 | .mp i=>some i
 |_=>none
def U1 (x:SV):bP:=match x with
 | .sl _ _ n _=>some n
 | .sle=>some 0
 | .dD=>some 0
 |_=>none
def U2 (x:SV):Bool:=match x with
 | .sl _ _ _ _=>true
 | .sle=>true
 | .dD=>true
 |_=>false
def Pm (x:SV):ee:=match x with
 | .ptr i o=>some (.ptr i o)
 | .fn f a c=>some (.fn f a c)
 |_=>none
def ia (i:TI) (cs:aY) (off:Nat):ee:=
 aP (lY i.desc) (aP (Nat.ble (Nat.add off i.size) cs.length) (some (.agg ((cs.drop off).take i.size))) none) (cs[off]?)
def eI (cs:aY) (off:Nat) (xs:aY):aY:=cs.take off++xs++cs.drop (Nat.add off xs.length)
def az {J γ:Type} (x:Option J) (f:J->Option γ):Option γ:= @Option.rec J (λ_=>Option γ) none f x
def bU {J O γ:Type} (x:Option J) (y:Option O) (f:J->O->Option γ):Option γ:= @Option.rec J (λ_=>Option γ) none (λa=> @Option.rec O (λ_=>Option γ) none (f a) y) x
def rP {J O δ γ:Type} (x:Option J) (y:Option O) (z:Option δ) (f:J->O->δ->Option γ):Option γ:=az x λa=>bU y z λb c=>f a b c
def andThen (r:Option Bool) (k:Option Bool):Option Bool:=
 match r with
 |some true=>k
 |r=>r
def GO (E:Env) (eq:TypeId->SV->SV->Option Bool) (xs ys:aY):List FL->Option Bool
 | []=>some true
 |f::fs=>aP f.named (az (E.ty.get f.type) λi=>bU (ia i xs f.off) (ia i ys f.off) λx y=>andThen (eq f.type x y) (GO E eq xs ys fs)) none
def arb (x y:SV):Option Bool:=bU (oT x) (oT y) λa b=>some (a==b)
def aKu (E:Env) (x y:SV):Option Bool:=bU (intOf x) (intOf y) λa b=>aP (gF a.1 b.1) (eqI E a.2 b.2) none
def sj:List UInt8->List UInt8->Bool
 | [],[]=>true
 |a::l,b::m=>Nat.beq a.toNat b.toNat&&sj l m
 |_,_=>false
def De (a b:ByteArray):Bool:=sj a.data.toList b.data.toList
def eqStr (x y:SV):Option Bool:=bU (strOf x) (strOf y) λa b=>some (De a b)
def alk:SV->SV->Option Bool
 | .qc,.qc=>some true
 | .qc,.ptr _ _=>some false
 | .ptr _ _,.qc=>some false
 |_,_=>none
def auN:SV->SV->Option Bool
 | .dD,.dD=>some true
 | .dD,.sl _ _ _ _=>some false
 | .sl _ _ _ _,.dD=>some false
 |_,_=>none
def alm:SV->SV->Option Bool
 | .mn,.mn=>some true
 | .mn,.mp _=>some false
 | .mp _,.mn=>some false
 |_,_=>none
def auQ:SV->SV->Option Bool
 | .pb,.pb=>some true
 | .pb,.fn _ _ _=>some false
 | .fn _ _ _,.pb=>some false
 |_,_=>none
def arO (x y:SV):Option (aY×aY):=bU (G4 x) (G4 y) λxs ys=>some (xs,ys)
def auM (E:Env) (eq:TypeId->SV->SV->Option Bool) (t:TypeId) (fs:List FL) (x y:SV):Option Bool:=az (arO x y) λp=>aP (E.P.stoodInHeld t) none (GO E eq p.1 p.2 fs)
def eqD (d:UD):Env->(TypeId->SV->SV->Option Bool)->TypeId->SV->SV->Option Bool:=match d with
 | .bool=>λ_ _ _ x y=>arb x y
 | .int _=>λE _ _ x y=>aKu E x y
 | .string=>λ_ _ _ x y=>eqStr x y
 | .pointer=>λ_ _ _ x y=>alk x y
 | .slice _=>λ_ _ _ x y=>auN x y
 | .map _ _=>λ_ _ _ x y=>alm x y
 | .struct fs=>λE eq t x y=>auM E eq t fs x y
 | .func=>λ_ _ _ x y=>auQ x y
 |_=>λ_ _ _ _ _=>none
def eqT (E:Env) (n:Nat):TypeId->SV->SV->Option Bool:=
 @Nat.rec (λ_=>TypeId->SV->SV->Option Bool) (λ_ _ _=>none) (λ_ eq t x y=>az (E.ty.get t) λi=>eqD i.desc E eq t x y) n
def isConst:Operand->Bool
 | .const _=>true
 |_=>false
def auP (E:Env) (t:TypeId) (ox oy:Operand) (x:SV):Bool:=
 match x with
 | .agg _=> !E.P.eqGuardType E.P.depth t
 |_=>true
def GN (E:Env) (t:TypeId) (ox oy:Operand) (x y:SV):Option Bool:=aP (auP E t ox oy x) (eqT E 20 t x y) none
def la (neg:Bool) (r:Option Bool):ee:=az r λb=>some (.bool (aP neg (!b) b))
def Gg (r:Option Value):ee:=az r λv=>some (ue v)
def Xi (E:Env) (op:BinOp) (t:TypeId) (k k':IntKind):SI->SI->ee
 | .lit m,.lit n=>Gg (nF E.P (binOp op t (.int k m) (.int k' n)))
def acx (k:IntKind):SI->SI->SI
 | .lit m,.lit n=>.lit (k.wrap (m+n))
def Na (k:IntKind):SI->SI->SI
 | .lit m,.lit n=>.lit (k.wrap (m-n))
def akF (o:BinOp):Env->BinOp->TypeId->IntKind->IntKind->SI->SI->ee:=match o with
 | .add=>λ_ _ _ k k2 a b=>aP (gF k k2) (some (.int k (acx k a b))) none
 | .sub=>λ_ _ _ k k2 a b=>aP (gF k k2) (some (.int k (Na k a b))) none
 | .eql=>λE _ _ k k2 a b=>aP (gF k k2) (la false (eqI E a b)) none
 | .neq=>λE _ _ k k2 a b=>aP (gF k k2) (la true (eqI E a b)) none
 | .lss=>λE _ _ k k2 a b=>aP (gF k k2) (la false (Cv E a b)) none
 | .leq=>λE _ _ k k2 a b=>aP (gF k k2) (la true (Cv E b a)) none
 | .gtr=>λE _ _ k k2 a b=>aP (gF k k2) (la false (Cv E b a)) none
 | .geq=>λE _ _ k k2 a b=>aP (gF k k2) (la true (Cv E a b)) none
 |_=>λE op t k k2 a b=>Xi E op t k k2 a b
def ajv (o:BinOp):Env->BinOp->TypeId->ByteArray->ByteArray->ee:=match o with
 | .eql=>λ_ _ _ a b=>some (.bool (De a b))
 | .neq=>λ_ _ _ a b=>some (.bool (!De a b))
 |_=>λE op t a b=>Gg (nF E.P (binOp op t (.string a) (.string b)))
def UR (o:BinOp):Env->TypeId->Operand->Operand->SV->SV->ee:=match o with
 | .eql=>λE t ox oy x y=>la false (GN E t ox oy x y)
 | .neq=>λE t ox oy x y=>la true (GN E t ox oy x y)
 |_=>λ_ _ _ _ _ _=>none
def arv (E:Env) (op:BinOp) (t:TypeId) (k:IntKind) (a:SI) (y:SV):ee:=az (intOf y) λp=>akF op E op t k p.1 a p.2
def aru (E:Env) (op:BinOp) (t:TypeId) (a:ByteArray) (y:SV):ee:=az (strOf y) λb=>ajv op E op t a b
def avr (x:SV):Env->BinOp->TypeId->Operand->Operand->SV->SV->ee:=match x with
 | .int k a=>λE op t _ _ _ y=>arv E op t k a y
 | .str a=>λE op t _ _ _ y=>aru E op t a y
 |_=>λE op t ox oy x y=>UR op E t ox oy x y
def JE (E:Env) (op:BinOp) (t:TypeId) (ox oy:Operand) (x y:SV):ee:=avr x E op t ox oy x y
def Xv (k:IntKind):SI->SI
 | .lit n=>.lit (k.wrap n)
def aws:SI->ee
 | .lit n=>some (.str (Utf8.encode n))
def ajw:SV->ee
 | .str s=>some (.str s)
 | .int _ e=>aws e
 |_=>none
def Xw (d:UD):SV->ee:=match d with
 | .int k=>λx=>az (intOf x) λp=>some (.int k (Xv k p.2))
 | .string=>λx=>ajw x
 |_=>λ_=>none
def LJ (E:Env) (src dst:TypeId) (x:SV):ee:=bU (E.ty.get src) (E.ty.get dst) λ_ i=>Xw i.desc x
def PD:UnOp->Bool
 | .not=>true
 |_=>false
def isNeg:UnOp->Bool
 | .neg=>true
 |_=>false
def unV (x:SV):UnOp->ee:=match x with
 | .bool b=>λop=>aP (PD op) (some (.bool (!b))) none
 | .int k e=>λop=>aP (isNeg op) (some (.int k (Na k (.lit 0) e))) none
 |_=>λ_=>none
def unA (op:UnOp) (x:SV):ee:=unV x op
def mW (place:Nat->Option (Nat×Nat)) (cs:aY):List (Nat×aY)->Option aY
 | []=>some cs
 |p::rest=>az (place p.1) λq=>aP (Nat.beq p.2.length q.2&&Nat.ble (Nat.add q.1 q.2) cs.length) (mW place (eI cs q.1 p.2) rest) none
def kr (tm:Tf):List (Nat×Operand)->Option (List (Nat×aY))
 | []=>some []
 |p::rest=>az (cD tm p.2) λv=>bU v.cells (kr tm rest) λcs l=>some ((p.1,cs)::l)
def rep (z:aY):Nat->aY
 |0=> []
 |n+1=>z++rep z n
def Pb (E:Env) (fs:List FL) (j:Nat):Option (Nat×Nat):=az (fs[j]?) λf=>az (E.ty.get f.type) λfi=>some (f.off,fi.size)
def rY (size:Nat) (j:Nat):Option (Nat×Nat):=some (Nat.mul j size,size)
def JH (r:Option aY):ee:=az r λcs=>some (.agg cs)
def Qc (d:UD):Env->aY->List (Nat×aY)->ee:=match d with
 | .array _ e=>λE z gZ=>az (E.ty.get e) λie=>JH (mW (rY ie.size) z gZ)
 | .struct fs=>λE z gZ=>JH (mW (Pb E fs) z gZ)
 |_=>λ_ _ _=>none
def EU (E:Env) (t:TypeId) (gZ:List (Nat×aY)):ee:=az (E.ty.get t) λi=>Qc i.desc E i.zero gZ
def Hs.up (h:Hs) (u:Up):Hs:=⟨h.hp.set u.1 u.2,h.nx,u.1::h.lg⟩
def Hs.lQ (h:Hs) (us:dN):Hs:= @List.rec Up (λ_=>Hs->Hs) (λh=>h) (λu _ ih h=>ih (h.up u)) us h
def Hs.put (h:Hs) (id:Nat) (o:SO):Hs:=h.up (id,some o)
def Hs.bump (h:Hs):Hs:=⟨h.hp,Nat.add h.nx 1,h.lg⟩
def Hs.fin (h:Hs) (us:dN):Hs:= @List.rec Up (λ_=>Hs) h (λ_ _ _=>(h.lQ us).bump) us
def nk:Option SO->Option (TypeId×aY)
 |some (.cells e cs)=>some (e,cs)
 |_=>none
def HI:SV->Bool
 | .undef=>true
 |_=>false
def uN:aY->Bool
 | []=>true
 |x::l=>aP (HI x) false (uN l)
def jb (o:Option SO) (off n:Nat):Option (TypeId×aY):=
 match o with
 |some (.cells e cs)=>some (e,cs)
 |some (.ro cs)=>aP (uN ((cs.drop off).take n)) (some (0,cs)) none
 |_=>none
def mf (h:Hf) (id off n:Nat):Option aY:=az (jb (h id) off n) λp=>aP (Nat.ble (Nat.add off n) p.2.length) (some ((p.2.drop off).take n)) none
def rowOf (x:SV):Hf->Nat->Option aY:=match x with
 | .sl i o n _=>λh size=>mf h i o (Nat.mul n size)
 | .sle=>λ_ _=>some []
 | .dD=>λ_ _=>some []
 |_=>λ_ _=>none
def wide (i:TI):Nat:=aP (lY i.desc) i.size 1
def oW (E:Env) (h:Hf) (t:TypeId) (v:SV):ee:=az (uX v) λq=>az (E.ty.get t) λi=>az (jb (h q.1) q.2 (wide i)) λp=>ia i p.2 q.2
def rX (E:Env) (h:Hf) (t:TypeId) (v:SV) (a:SV):Option dN:=
 az (uX a) λq=>rP (E.ty.get t) v.cells (nk (h q.1)) λi xs p=>aP (Nat.beq xs.length i.size&&Nat.ble (Nat.add q.2 xs.length) p.2.length) (some [(q.1,some (.cells p.1 (eI p.2 q.2 xs)))]) none
def AI (E:Env) (e:TypeId) (id off n k:Nat):ee:=aP (Nat.ble (Nat.succ k) n) (az (E.ty.get e) λie=>some (.ptr id (Nat.add off (Nat.mul k ie.size)))) none
def Gv (d:UD):Env->SV->Nat->ee:=match d with
 | .slice e=>λE x k=>az (asS x) λq=>AI E e q.1 q.2.1 q.2.2.1 k
 | .array n e=>λE x k=>az (uX x) λq=>AI E e q.1 q.2 n k
 |_=>λ_ _ _=>none
def og (E:Env) (t:TypeId) (x:SV) (k:Nat):ee:=az (E.ty.get t) λi=>Gv i.desc E x k
def j0 (tm:Tf):Option Operand->Option bP
 |none=>some none
 |some x=>az (cD tm x) λv=>az (kY v) λn=>some (some n)
def FX (m:Cp) (l:Nat):Cp:=
 match m with
 | .k c=>.k (Nat.sub c l)
 | .u e=>.u e
def zt (id off l h size:Nat) (m:Cp):SV:=aP (Nat.beq l 0) (.sl id off h m) (aP (Nat.ble (Nat.succ l) h) (.sl id (Nat.add off (Nat.mul l size)) (Nat.sub h l) (FX m l)) .sle)
def akr (mx:bP) (h reach:Nat):Bool:=
 match mx with
 |some m=>Nat.ble h m&&Nat.ble m reach
 |none=>true
def orC (a:bP) (b:Cp):Cp:=
 match a with
 |some m=>.k m
 |none=>b
def reach (c:Cp) (n:Nat):Nat:=
 match c with
 | .k m=>m
 | .u _=>n
def YK (c:Cp) (e:TypeId):Bool:=
 match c with
 | .k _=>true
 | .u e'=>Nat.beq e' e
def xH (E:Env) (e:TypeId) (id off n:Nat) (cap:Cp) (lo hi mx:bP):ee:=
 az (E.ty.get e) λie=>aP (YK cap e&&(Nat.ble (lo.getD 0) (hi.getD n)&&(Nat.ble (hi.getD n) (reach cap n)&&akr mx (hi.getD n) (reach cap n)))) (some (zt id off (lo.getD 0) (hi.getD n) ie.size (orC mx cap))) none
def Z4 (s:ByteArray) (lo hi mx:bP):ee:=
 match mx with
 |some _=>none
 |none=>aP (Nat.ble (lo.getD 0) (hi.getD s.size)&&Nat.ble (hi.getD s.size) s.size) (some (.str (s.extract (lo.getD 0) (hi.getD s.size)))) none
def nr:bP->Bool
 |some n=>Nat.beq n 0
 |none=>true
def Iq (x:SV):Env->TypeId->bP->bP->bP->ee:=match x with
 | .sl i o n c=>λE e lo hi mx=>xH E e i o n c lo hi mx
 | .sle=>λ_ _ lo hi mx=>aP (nr lo&&(nr hi&&mx.isNone)) (some .sle) none
 | .dD=>λ_ _ lo hi mx=>aP (nr lo&&(nr hi&&nr mx)) (some .dD) none
 |_=>λ_ _ _ _ _=>none
def aoJ (d:UD):Env->SV->bP->bP->bP->ee:=match d with
 | .string=>λ_ x lo hi mx=>az (strOf x) λs=>Z4 s lo hi mx
 | .slice e=>λE x lo hi mx=>az (E.ty.get e) λ_=>Iq x E e lo hi mx
 | .array n e=>λE x lo hi mx=>az (uX x) λq=>xH E e q.1 q.2 n (.k n) lo hi mx
 |_=>λ_ _ _ _ _=>none
def awN (hi mx:bP):Bool:=
 match mx with
 |some _=>hi.isSome
 |none=>true
def A4 (E:Env) (t:TypeId) (x:SV) (lo hi mx:bP):ee:=az (E.ty.get t) λi=>aP (awN hi mx) (aoJ i.desc E x lo hi mx) none
def LN (s:ByteArray):aY:=s.data.toList.map λb=>.int .u8 (.lit b.toNat)
def AX (h:Hf) (size:Nat) (x:SV):Option (Nat×aY):=bU (U1 x) (rowOf x h size) λn xs=>some (n,xs)
def srcV (x:SV):Hf->Nat->SV->Option (Nat×aY):=match x with
 | .str b=>λ_ size _=>aP (Nat.beq size 1) (some (b.size,LN b)) none
 |_=>λh size x=>AX h size x
def uW (h:Hf) (size:Nat) (x:SV):Option (Nat×aY):=srcV x h size x
def pT (ie:TI):Bool:=Nat.ble ie.bytes 65536&&(Nat.ble 1 ie.size&&Nat.beq ie.zero.length ie.size)
def wk (new:Nat) (e:TypeId) (n:Nat) (cs:aY) (us:dN):gm:=some (.sl new 0 n (.u e),us++ [(new,some (.cells e cs))])
def Qj (new:Nat) (e:TypeId) (size id off n:Nat) (cap:Cp) (m:Nat) (xs:aY) (p:TypeId×aY) (old:aY):gm:=
 match cap with
 | .k c=>
  aP (Nat.ble (Nat.add n m) c)
   (aP (Nat.ble (Nat.add off (Nat.mul (Nat.add n m) size)) p.2.length) (some (.sl id off (Nat.add n m) cap,[(id,some (.cells p.1 (eI p.2 (Nat.add off (Nat.mul n size)) xs)))])) none)
   (wk new e (Nat.add n m) (old++xs) [])
 | .u _=>aP (Nat.ble (Nat.add off (Nat.mul n size)) p.2.length&&Nat.beq e p.1) (wk new e (Nat.add n m) (old++xs) [(id,none)]) none
def Xm (n m:Nat):Cp->Bool
 | .k c=>Nat.ble (Nat.succ c) (Nat.add n m)
 | .u _=>false
def LR (h:Hf) (new:Nat) (e:TypeId) (size m:Nat) (xs:aY) (id off n:Nat) (cap:Cp):gm:=aP (Nat.ble n 1000000) (aP (Xm n m cap) (az (mf h id off (Nat.mul n size)) λold=>wk new e (Nat.add n m) (old++xs) []) (bU (nk (h id)) (mf h id off (Nat.mul n size)) λp old=>Qj new e size id off n cap m xs p old)) none
def vd (x:SV):Hf->Nat->TypeId->Nat->Nat->aY->gm:=match x with
 | .sl i o n c=>λh new e size m xs=>LR h new e size m xs i o n c
 | .dD=>λ_ new e _ m xs=>wk new e m xs []
 |_=>λ_ _ _ _ _ _=>none
def Vl (E:Env) (h:Hf) (new:Nat) (e:TypeId) (s x:SV):gm:=
 az (E.ty.get e) λie=>aP (pT ie) (az (uW h ie.size x) λq=>aP (Nat.ble q.1 1000000) (aP (Nat.beq q.1 0) (aP (U2 s) (some (s,[])) none) (vd s h new e ie.size q.1 q.2)) none) none
def qL (d:UD):Option TypeId:=match d with
 | .slice e=>some e
 |_=>none
def nK (E:Env) (h:Hf) (new:Nat) (t:TypeId) (s x:SV):gm:=az (E.ty.get t) λi=>az (qL i.desc) λe=>Vl E h new e s x
def Ew (d:UD):Bool:=match d with
 | .string=>true
 |_=>false
def Lt (d:UD):Bool:=match d with
 | .bool=>true
 |_=>false
def isLit:SI->Bool
 | .lit _=>true
def akG (k:IntKind):UD->Bool
 | .int k'=>gF k k'
 |_=>false
def IS (x:SV):UD->Bool:=match x with
 | .bool _=>λd=>Lt d
 | .int k e=>λd=>isLit e&&akG k d
 | .str _=>λd=>Ew d
 |_=>λ_=>false
def awr:SI->SI->Option Bool
 | .lit a,.lit b=>some (Gu a b)
def sameKey (x:SV):SV->Option Bool:=match x with
 | .bool a=>λy=>arb (.bool a) y
 | .int k a=>λy=>az (intOf y) λp=>aP (gF k p.1) (awr a p.2) none
 | .str a=>λy=>eqStr (.str a) y
 |_=>λ_=>none
def pQ (k:SV):je->Nat->Option (Option (Nat×SV×Nat))
 | [],_=>some none
 |e::es,i=>
  match sameKey k e.1 with
  |some true=>some (some (i,e.2.1,e.2.2))
  |some false=>pQ k es (Nat.add i 1)
  |none=>none
def j1:Option SO->Option (je×Nat)
 |some (.map es c)=>some (es,c)
 |_=>none
def abS (x:SV):Hf->Option je:=match x with
 | .mp i=>λh=>az (j1 (h i)) λp=>some p.1
 | .mn=>λ_=>some []
 |_=>λ_=>none
def okV (ok:Bool) (v:SV) (b:Bool):SV:=aP ok (.cS [v,.bool b]) v
def Jn (ok:Bool) (z:ee):Option (Nat×SV×Nat)->ee
 |some r=>some (okV ok r.2.1 true)
 |none=>az z λz=>some (okV ok z false)
def Bh (d:UD):Option (TypeId×TypeId):=match d with
 | .map k e=>some (k,e)
 |_=>none
def sF (E:Env) (h:Hf) (t:TypeId) (x k:SV) (ok:Bool):ee:=
 az (E.ty.get t) λi=>az (Bh i.desc) λq=>bU (E.ty.get q.1) (E.ty.get q.2) λik ie=>aP (IS k ik.desc) (az (abS x h) λes=>az (pQ k es 0) λr=>Jn ok (ia ie ie.zero 0) r) none
def YI (es:je) (c:Nat) (k v:SV):Option (Nat×SV×Nat)->SO
 |some r=>.map (es.set r.1 (k,v,r.2.2)) c
 |none=>.map (es++ [(k,v,c)]) (Nat.add c 1)
def vh (E:Env) (h:Hf) (t:TypeId) (x k v:SV):Option dN:=
 az (ats x) λid=>az (E.ty.get t) λi=>az (Bh i.desc) λq=>bU (E.ty.get q.1) (j1 (h id)) λik p=>aP (IS k ik.desc) (az (pQ k p.1 0) λr=>some [(id,some (YI p.1 p.2 k v r))]) none
def uz (n:Nat):SV:=.int .i64 (.lit (.ofNat n))
def aty (x:SV):Hf->ee:=match x with
 | .mp i=>λh=>az (j1 (h i)) λp=>some (uz p.1.length)
 | .mn=>λ_=>some (uz 0)
 |_=>λ_=>none
def xQ (d:UD):SV->Hf->ee:=match d with
 | .string=>λx _=>az (strOf x) λs=>some (uz s.size)
 | .slice _=>λx _=>az (U1 x) λn=>some (uz n)
 | .array n _=>λ_ _=>some (uz n)
 | .map _ _=>λx h=>aty x h
 |_=>λ_ _=>none
def fT (tm:Tf):List Operand->Option aY
 | []=>some []
 |x::xs=>bU (cD tm x) (fT tm xs) λv l=>some (v::l)
def same (r:ee):gm:=az r λv=>some (v,[])
def unit (r:Option dN):gm:=az r λus=>some (.cS [],us)
def one (tm:Tf) (x:Operand) (f:SV->gm):gm:=az (cD tm x) f
def two (tm:Tf) (x y:Operand) (f:SV->SV->gm):gm:=bU (cD tm x) (cD tm y) f
def aBC (E:Env) (new:Nat) (e:TypeId):gm:=az (E.ty.get e) λi=>some (.ptr new 0,[(new,some (.cells e i.zero))])
def Xe (new:Nat) (e:TypeId) (v:SV):gm:=az v.cells λcs=>some (.ptr new 0,[(new,some (.cells e cs))])
def tj (E:Env) (new:Nat) (t:TypeId) (len:Nat) (gZ:List (Nat×aY)):gm:=
 az (E.ty.get t) λi=>az (qL i.desc) λe=>az (E.ty.get e) λie=>
  aP (pT ie&&Nat.ble (Nat.mul len ie.size) 16777216) (az (mW (rY ie.size) (rep ie.zero len) gZ) λcs=>some (.sl new 0 len (.k len),[(new,some (.cells e cs))])) none
def UU:Fn->Bool
 | .func _=>true
 |_=>false
def aEG (tm:Tf) (f:Fn) (a c:List Operand):gm:=aP (UU f) (bU (fT tm a) (fT tm c) λl m=>some (.fn f l m,[])) none
def Po (new:Nat):gm:=some (.mp new,[(new,some (.map [] 0))])
def aJt (E:Env) (tm:Tf) (new:Nat) (t:TypeId):Option Operand->gm
 |none=>Po new
 |some x=>bU (E.ty.get t) (cD tm x) λi v=>bU (Bh i.desc) (kY v) λ_ _=>Po new
def Be (E:Env) (new:Nat) (t:TypeId) (l c:Nat):gm:=
 az (E.ty.get t) λi=>az (qL i.desc) λe=>az (E.ty.get e) λie=>
  aP (Nat.ble l c&&(Nat.ble c 1000000&&pT ie)) (some (.sl new 0 l (.k c),[(new,some (.cells e (rep ie.zero c)))])) none
def xB (d:UD):Option (List FL):=match d with
 | .struct fs=>some fs
 |_=>none
def oo (E:Env) (s:TypeId) (f:Nat) (v:SV):gm:=
 bU (E.ty.get s) (uX v) λi p=>az (xB i.desc) λfs=>az (fs[f]?) λfl=>az (E.ty.get fl.type) λfi=>aP (Nat.ble 1 fi.size) (some (.ptr p.1 (Nat.add p.2 fl.off),[])) none
def xN (E:Env) (t:TypeId) (f:Nat) (v:SV):gm:=
 bU (E.ty.get t) (G4 v) λi cs=>az (xB i.desc) λfs=>az (fs[f]?) λfl=>az (E.ty.get fl.type) λfi=>same (ia fi cs fl.off)
def abh (d:UD):Env->Nat->SV->gm:=match d with
 | .string=>λ_ k v=>az (strOf v) λs=>az (s.data.toList[k]?) λb=>some (.int .u8 (.lit (.ofNat b.toNat)),[])
 | .array n e=>λE k v=>bU (G4 v) (E.ty.get e) λcs ie=>aP (Nat.ble (Nat.succ k) n) (same (ia ie cs (Nat.mul k ie.size))) none
 |_=>λ_ _ _=>none
def vM (E:Env) (t:TypeId) (k:Nat) (v:SV):gm:=az (E.ty.get t) λi=>abh i.desc E k v
def aEC (x:SV):Hf->Option SO:=match x with
 | .mp i=>λh=>az (j1 (h i)) λp=>some (.mapIter (some i) p.2 [] p.2)
 | .mn=>λ_=>some (.mapIter none 0 [] 0)
 |_=>λ_=>none
def O6 (d:UD) (v:SV) (h:Hf):Option SO:=
 match d with
 | .string=>az (strOf v) λs=>some (.nA s 0)
 | .map _ _=>aEC v h
 |_=>none
def vL (E:Env) (h:Hf) (new:Nat) (t:TypeId) (v:SV):gm:=az (E.ty.get t) λi=>az (O6 i.desc v h) λo=>some (.ptr new 0,[(new,some o)])
def Ls:Option SO->Option (ByteArray×Nat)
 |some (.nA s p)=>some (s,p)
 |_=>none
def xm (v:SV):bP:=az (uX v) λq=>aP (Nat.beq q.2 0) (some q.1) none
def xO (id:Nat) (p:ByteArray×Nat):SV×dN:=
 aP (Nat.ble (Nat.succ p.2) p.1.size) (.cS [.bool true,uz p.2,.int .i32 (.lit (Utf8.decode p.1 p.2).1)],[(id,some (.nA p.1 (Nat.add p.2 (Utf8.decode p.1 p.2).2)))]) (.cS [.bool false],[])
def yH (h:Hf) (tu:Bool) (v:SV):gm:=aP tu (az (xm v) λid=>az (Ls (h id)) λp=>some (xO id p)) none
def IL (E:Env) (mx:Bool) (x y:SV):ee:=bU (intOf x) (intOf y) λa b=>az (aP mx (Cv E a.2 b.2) (Cv E b.2 a.2)) λr=>some (.int a.1 (aP r b.2 a.2))
def Iw:UD->Bool
 | .slice _=>true
 | .string=>true
 |_=>false
def uB {J:Type}:List J->Option (J×J)
 | [a,b]=>some (a,b)
 |_=>none
def rk (E:Env) (h:Hf) (new:Nat) (b:Builtin) (aa:aY) (ts:List TypeId):gm:=
 match b with
 | .len=>bU aa.head? ts.head? λx t=>aP (Nat.beq aa.length 1) (az (E.ty.get t) λi=>same (xQ i.desc x h)) none
 | .append=>bU (uB aa) (uB ts) λp q=>az (E.ty.get q.2) λi=>aP (Iw i.desc) (nK E h new q.1 p.1 p.2) none
 | .min=>az (uB aa) λp=>same (IL E false p.1 p.2)
 | .max=>az (uB aa) λp=>same (IL E true p.1 p.2)
 |_=>none
def rZ (E:Env) (tm:Tf) (h:Hf) (new:Nat) (c:Call):gm:=
 match c.callee with
 | .builtin b=>az (fT tm c.args.toList) λaa=>rk E h new b aa c.argTypes.toList
 |_=>none
def opD (o:Op):Env->Tf->Hf->Nat->gm:=match o with
 | .move x=>λ_ tm _ _=>one tm x λv=>some (v,[])
 | .assign x=>λ_ tm _ _=>one tm x λv=>some (v,[])
 | .pick c x y=>λ_ tm _ _=>az (cD tm c) λv=>az (oT v) λb=>one tm (aP b x y) λv=>some (v,[])
 | .alloc e=>λE _ _ new=>aBC E new e
 | .box e x=>λ_ tm _ new=>one tm x (Xe new e)
 | .build t parts=>λE tm _ _=>az (kr tm parts.toList) λgZ=>same (EU E t gZ)
 | .buildSlice t len parts=>λE tm _ new=>az (kr tm parts.toList) λgZ=>tj E new t len gZ
 | .insert t m k x=>λE tm h _=>two tm m k λa b=>one tm x λc=>unit (vh E h t a b c)
 | .load t x=>λE tm h _=>one tm x λv=>same (oW E h t v)
 | .store t x y=>λE tm h _=>two tm x y λa v=>unit (rX E h t v a)
 | .nilCheck x=>λ_ tm _ _=>one tm x λv=>same (Pm v)
 | .binOp op t x y _=>λE tm _ _=>two tm x y λv u=>same (JE E op t x y v u)
 | .unOp op _ x=>λ_ tm _ _=>one tm x λv=>same (unA op v)
 | .convert s d x=>λE tm _ _=>one tm x λv=>same (LJ E s d v)
 | .makeFunc f a c=>λ_ tm _ _=>aEG tm f a.toList c.toList
 | .makeMap t r=>λE tm _ new=>aJt E tm new t r
 | .makeSlice t l c=>λE tm _ new=>two tm l c λu v=>bU (kY u) (kY v) (Be E new t)
 | .slice t x lo hi mx=>λE tm _ _=>one tm x λv=>rP (j0 tm lo) (j0 tm hi) (j0 tm mx) λl u m=>same (A4 E t v l u m)
 | .fieldAddr s x f=>λE tm _ _=>one tm x (oo E s f)
 | .field t x f=>λE tm _ _=>one tm x (xN E t f)
 | .indexAddr t x ix=>λE tm _ _=>two tm x ix λv u=>az (kY u) λk=>same (og E t v k)
 | .index t x ix=>λE tm _ _=>two tm x ix λv u=>az (kY u) λk=>vM E t k v
 | .lookup t x k ok=>λE tm h _=>two tm x k λa b=>same (sF E h t a b ok)
 | .mapUpdate t m k x=>λE tm h _=>two tm m k λa b=>one tm x λc=>unit (vh E h t a b c)
 | .range t x=>λE tm h new=>one tm x (vL E h new t)
 | .next it tu=>λ_ tm h _=>one tm it (yH h tu)
 | .extract x i=>λ_ tm _ _=>one tm x λv=>az (Oq v) λvs=>same (vs[i]?)
 | .call c=>λE tm h new=>rZ E tm h new c
 |_=>λ_ _ _ _=>none
def qQ (E:Env) (op:Op) (tm:Tf) (h:Hf) (new:Nat):gm:=opD op E tm h new
inductive Ex where
 |normal|exit (id:Nat)|ret|fR (v:SV)
 deriving Inhabited
def setArgs (vs:aY):Nat->de->de:= @List.rec SV (λ_=>Nat->de->de) (λ_ t=>t) (λv _ ih i t=>ih (Nat.add i 1) (t.set i (some v))) vs
def iU (tm:de) (d:bP) (v:SV):de:= @Option.rec Nat (λ_=>de) tm (λd=>tm.set d (some v)) d
def kZ (nt:Nat) (d:bP):Bool:= @Option.rec Nat (λ_=>Bool) true (λd=>Nat.ble (Nat.succ d) nt) d
def aJk (x:SV):Bool->Option Bool:=match x with
 | .bool b=>λwant=>some (b==want)
 | .cS _=>λ_=>some false
 |_=>λ_=>none
def ajl (want:Bool) (x:SV):Option Bool:=aJk x want
def II (l:dd):Nat->bP:= @List.rec Oper (λ_=>Nat->bP) (λ_=>none) (λo _ ih j=> @Nat.rec (λ_=>bP) o.dst (λk _=>ih k) j) l
def vB (ops:dd) (tm:Tf) (j:Nat) (want:Bool):Option Bool:= @Option.rec Nat (λ_=>Option Bool) (some false) (λt=>az (tm t) (ajl want)) (II ops j)
def gq (ops:dd) (o:Oper) (tm:Tf):Option Bool:= @Option.rec (Nat×Bool) (λ_=>Option Bool) (some true) (λg=>vB ops tm g.1 g.2) o.guard
def OZ (E:Env) (tm:Tf) (h:Hf):ResultVar->ee
 | .tmp t=>tm t
 | .cell t ty=>az (tm t) (oW E h ty)
def sC (E:Env) (tm:Tf) (h:Hf):List ResultVar->Option aY
 | []=>some []
 |r::rs=>bU (OZ E tm h r) (sC E tm h rs) λv l=>some (v::l)
def oneOf:aY->SV
 | [v]=>v
 |vs=>.cS vs
def AK:List UInt8->List UInt8->Bool
 | [],[]=>false
 | [],_::_=>true
 |_::_,[]=>false
 |a::l,b::m=>aP (Nat.ble (Nat.succ a.toNat) b.toNat) true (aP (Nat.beq a.toNat b.toNat) (AK l m) false)
def ET (a b:ByteArray):Int:=aP (AK a.data.toList b.data.toList) (-1) (aP (sj a.data.toList b.data.toList) 0 1)
structure Rc where
 i:Nat
 call:Bool
 rd:bq
 wr:bq
 lo:Nat
 hi:Nat
inductive Dm where
 |mark (d:Nat)
 |fn (k:FuncId) (args eG:aY)
inductive lH where
 |code (nt:Nat) (c:Code) (tm:de) (mk:List Dm) (h:Hs)
 |ops (nt:Nat) (all l:dd) (tm:de) (mk:List Dm) (h:Hs)
 |draw (nt W:Nat) (all:dd) (base i M:Nat) (prev:List Rc) (l:dd) (tm:de) (h:Hs)
 |call (f:SV) (args:aY) (h:Hs)
structure Oc where
 e:Ex
 tm:de
 dm:List Dm
 h:Hs
structure Rs where
 fR:Bool
 v:SV
 h:Hs
inductive Out where
 |db (l:List Oc)
 |st (tm:de) (h:Hs)
 |ir (l:List Rs)
 |fail (why:String)
 |SL (k:Nat) (args:aY) (h:Hs)
 deriving Inhabited
abbrev Out.code (e:Ex) (tm:de) (mk:List Dm) (h:Hs):Out:=.db [⟨e,tm,mk,h⟩]
abbrev Out.res (v:SV) (h:Hs):Out:=.ir [⟨false,v,h⟩]
abbrev Out.fR (v:SV) (h:Hs):Out:=.ir [⟨true,v,h⟩]
def acr:Out->Out->Out
 | .db a,.db b=>.db (a++b)
 | .ir a,.ir b=>.ir (a++b)
 | .fail s,_=>.fail s
 |_,.fail s=>.fail s
 |_,_=>.fail ""
def wL {J:Type} (k:J->Out) (l:List J):Out:=
 @List.rec J (λ_=>Out) (.fail "") (λo l ih=> @List.rec J (λ_=>Out) (k o) (λ_ _ _=>acr (k o) ih) l) l
def IF (r:Out) (k:Ex->de->List Dm->Hs->Out):Out:= @Out.rec (λ_=>Out) (λl=>wL (λo=>k o.e o.tm o.dm o.h) l) (λ_ _=>.fail "") (λ_=>.fail "") (λs=>.fail s) (λa b c=>.SL a b c) r
def stK (r:Out) (k:de->Hs->Out):Out:= @Out.rec (λ_=>Out) (λ_=>.fail "") k (λ_=>.fail "") (λs=>.fail s) (λa b c=>.SL a b c) r
def aag (r:Out) (k kp:SV->Hs->Out):Out:= @Out.rec (λ_=>Out) (λ_=>.fail "") (λ_ _=>.fail "") (λl=>wL (λr=>aP r.fR (kp r.v r.h) (k r.v r.h)) l) (λs=>.fail s) (λa b c=>.SL a b c) r
def one1 (l:List Rs) (k:Rs->Out):Out:= @List.rec Rs (λ_=>Out) (.fail "") (λr l _=> @List.rec Rs (λ_=>Out) (k r) (λ_ _ _=>.fail "") l) l
def oneK (r:Out) (k kp:SV->Hs->Out):Out:= @Out.rec (λ_=>Out) (λ_=>.fail "") (λ_ _=>.fail "") (λl=>one1 l λr=>aP r.fR (kp r.v r.h) (k r.v r.h)) (λs=>.fail s) (λa b c=>.SL a b c) r
def seqE (e:Ex) (tm:de) (mk:List Dm) (h:Hs) (k:de->List Dm->Hs->Out):Out:= @Ex.rec (λ_=>Out) (k tm mk h) (λid=>.code (.exit id) tm mk h) (.code .ret tm mk h) (λv=>.code (.fR v) tm mk h) e
def UE (r:Out) (k:de->List Dm->Hs->Out):Out:=IF r λe tm mk h=>seqE e tm mk h k
def leave (id:Nat) (e:Ex):Ex:= @Ex.rec (λ_=>Ex) .normal (λid'=>aP (Nat.beq id' id) .normal (.exit id')) .ret (λv=>.fR v) e
def aci (id:Nat) (r:Out):Out:=IF r λe tm mk h=>.code (leave id e) tm mk h
def alB (v:ee) (a b:Out):Out:= @Option.rec Bool (λ_=>Out) (.fail "") (λc=>aP c a b) (az v oT)
def Vc (E:Env):SV->Bool
 | .fn (.func k) _ _=> @Option.rec Func (λ_=>Bool) false (λfn=>fn.body.isSome) (E.fn.get k)
 |_=>false
def ayv (c:Code):Env->(lH->Out)->Nat->de->List Dm->Hs->Out:= @Code.rec (λ_=>Env->(lH->Out)->Nat->de->List Dm->Hs->Out)
 (λ_ _ _ tm mk h=>.code .normal tm mk h)
 (λ_ ops draw _ rec nt tm mk h=>aP draw (stK (rec (.draw nt ops.size ops.toList h.nx 0 0 [] ops.toList tm ⟨h.hp,Nat.add h.nx ops.size,h.lg⟩)) λw5 h'=>.code .normal w5 mk h') (rec (.ops nt ops.toList ops.toList tm mk h)))
 (λa b _ _ _ rec nt tm mk h=>UE (rec (.code nt a tm mk h)) λw5 mk' h'=>rec (.code nt b w5 mk' h'))
 (λc a b _ _ _ rec nt tm mk h=>alB (cD tm.get c) (rec (.code nt a tm mk h)) (rec (.code nt b tm mk h)))
 (λid c _ _ rec nt tm mk h=>aci id (rec (.code nt c tm mk h)))
 (λc _ _ rec nt tm mk h=>UE (rec (.code nt c tm mk h)) λw5 mk' h'=>rec (.code nt (.loop c) w5 mk' h'))
 (λ_ _ _ _ _ _ _ _ _ _ _ _=>.fail "")
 (λid _ _ _ tm mk h=>.code (.exit id) tm mk h)
 (λ_ _ _ _ _ _ _ _=>.fail "")
 (λ_ _ _ _ _ _ _=>.fail "")
 (λ_ _ _ _ _ _ _=>.fail "")
 (λ_ _ _ tm mk h=>.code .ret tm mk h)
 (λ_ _ _ _ _ _ _=>.fail "") c
def sI (tm:Tf):Callee->ee
 | .value x=>cD tm x
 |_=>none
def isValue:Callee->Bool
 | .value _=>true
 |_=>false
def wM (o:Op):Option Call:=match o with
 | .call c=>aP (isValue c.callee) (some c) none
 |_=>none
def Gn (x:Nat):bq->Bool
 | []=>false
 |y::l=>aP (Nat.beq x y) true (Gn x l)
def goK (rec:lH->Out) (h:Hs) (f:ee) (aa:Option aY) (k kp:SV->Hs->Out):Out:=
 @Option.rec (SV×aY) (λ_=>Out) (.fail "") (λp=>aag (rec (.call p.1 p.2 h)) k kp) (bU f aa λf aa=>some (f,aa))
def auy (rec:lH->Out) (h:Hs) (f:ee) (aa:Option aY) (k kp:SV->Hs->Out):Out:=
 @Option.rec (SV×aY) (λ_=>Out) (.fail "") (λp=>oneK (rec (.call p.1 p.2 h)) k kp) (bU f aa λf aa=>some (f,aa))
def uY (rec:lH->Out) (nt:Nat) (all l:dd) (tm:de) (mk:List Dm) (d:bP) (v:SV) (h:Hs):Out:=rec (.ops nt all l (iU tm d v) mk h)
def asx (rec:lH->Out) (nt:Nat) (all l:dd) (tm:de) (mk:List Dm) (h:Hs) (o:Oper) (r:gm):Out:=
 @Option.rec (SV×dN) (λ_=>Out) (.fail o.pos) (λr=>uY rec nt all l tm mk o.dst r.1 (h.fin r.2)) r
def Pn (o:Op):Option (Operand×Bool):=match o with
 | .next it tu=>aP tu none (some (it,false))
 | .entry it=>some (it,true)
 |_=>none
def Gs (seen:bq) (es:je):je:=es.filter λe=> !Gn e.2.2 seen
def iterM (since:Nat) (seen:bq) (last c:Nat) (es:je):Bool:=
 es.all (λe=>Nat.ble (Nat.succ e.2.2) since)&&Nat.ble since last
def agm (rec:lH->Out) (nt:Nat) (all l:dd) (tm:de) (mk:List Dm) (h:Hs) (d:bP) (id m since:Nat) (seen:bq) (c:Nat) (es:je):Out:=
 @List.rec (SV×SV×Nat) (λ_=>Out) (uY rec nt all l tm mk d (.cS [.bool false]) h) (λ_ _ _=>wL (λe=>uY rec nt all l tm mk d (.cS [.bool true,e.1,e.2.1]) (h.put id (.mapIter (some m) since (seen++ [e.2.2]) c))) (Gs seen es)) (Gs seen es)
def akx:bq->bP
 | []=>none
 | [a]=>some a
 |_::l=>akx l
def Xn (b:Nat):je->ee
 | []=>none
 |e::es=>aP (Nat.beq e.2.2 b) (some (.cS [e.1,e.2.1])) (Xn b es)
def EO (h:Hf) (id:Nat):ee:=
 match h id with
 |some (.mapIter (some m) since seen last)=>
  (match h m with
  |some (.map es c)=>aP (Nat.beq c last) (az (akx seen) λb=>Xn b es) none
  |_=>none)
 |_=>none
def P2 (rec:lH->Out) (nt:Nat) (all l:dd) (tm:de) (mk:List Dm) (h:Hs) (d:bP) (r:ee):Out:= @Option.rec SV (λ_=>Out) (.fail "") (λv=>uY rec nt all l tm mk d v h) r
def xC (rec:lH->Out) (nt:Nat) (all l:dd) (tm:de) (mk:List Dm) (h:Hs) (d:bP) (id:Nat):Out:=
 match h.hp.get id with
 |some (.mapIter none _ _ _)=>uY rec nt all l tm mk d (.cS [.bool false]) h
 |some (.mapIter (some m) since seen last)=>
  (match h.hp.get m with
  |some (.map es c)=>aP (iterM since seen last c es) (agm rec nt all l tm mk h d id m since seen c es) (.fail "")
  |_=>.fail "")
 |_=>.fail ""
def akC (rec:lH->Out) (nt:Nat) (all l:dd) (tm:de) (mk:List Dm) (h:Hs) (d:bP) (isE:Bool) (v:ee):Out:=
 @Option.rec Nat (λ_=>Out) (.fail "") (λid=>aP isE (P2 rec nt all l tm mk h d (EO h.hp.get id)) (xC rec nt all l tm mk h d id)) (az v xm)
def ajV (E:Env) (rec:lH->Out) (nt:Nat) (all l:dd) (tm:de) (mk:List Dm) (h:Hs) (o:Oper) (it:Option (Operand×Bool)):Out:=
 @Option.rec (Operand×Bool) (λ_=>Out) (asx rec nt all l tm mk h o (qQ E o.op tm.get h.hp.get h.nx)) (λx=>akC rec nt all l tm mk h o.dst x.2 (cD tm.get x.1)) it
def doK (E:Env) (rec:lH->Out) (nt:Nat) (all l:dd) (tm:de) (mk:List Dm) (h:Hs) (o:Oper) (c:Option Call):Out:=
 @Option.rec Call (λ_=>Out) (ajV E rec nt all l tm mk h o (Pn o.op)) (λc=>goK rec h (sI tm.get c.callee) (fT tm.get c.args.toList) (uY rec nt all l tm mk o.dst) λv h=>.code (.fR v) tm mk h) c
def ajj (E:Env) (rec:lH->Out) (nt:Nat) (all l:dd) (tm:de) (mk:List Dm) (h:Hs) (o:Oper) (w:Option Bool):Out:=
 @Option.rec Bool (λ_=>Out) (.fail "") (λw=>aP w (doK E rec nt all l tm mk h o (wM o.op)) (uY rec nt all l tm mk o.dst (.cS []) h)) w
def agl (E:Env) (rec:lH->Out) (nt:Nat) (all l:dd) (tm:de) (mk:List Dm) (h:Hs):Out:=
 @List.rec Oper (λ_=>Out) (.code .normal tm mk h) (λo l _=>aP (kZ nt o.dst) (ajj E rec nt all l tm mk h o (gq all o tm.get)) (.fail "")) l
def force {O:Type} (m:Nat) (f:Nat->O):O:=Nat.rec (f 0) (λk _=>f (k+1)) m
def l8 (o:Oper):bq:=(o.after.toList.filter (Region.binds .any ·)).map (·.on)
def nU (W M:Nat):bq->Nat
 | []=>0
 |i::ds=>Nat.lor (nU W M ds) (Nat.lor (Nat.shiftLeft 1 i) (Nat.mod (Nat.shiftRight M (Nat.mul i W)) (Nat.pow 2 W)))
def rO (m i:Nat):Bool:=Nat.beq (Nat.land (Nat.shiftRight m i) 1) 1
def lO (x:Nat):bq->Bool
 | []=>false
 |y::l=>aP (Nat.beq x y) true (lO x l)
def o5:bq->bq->Bool
 | [],_=>true
 |x::l,m=>aP (lO x m) false (o5 l m)
def akp:bq->Bool
 | []=>true
 |_=>false
def IG (lo hi:Nat):bq->Bool
 | []=>true
 |x::l=>aP (Nat.ble (Nat.succ x) lo) (IG lo hi l) (aP (Nat.ble hi x) (IG lo hi l) false)
def PJ (p r:Rc):Bool:=
 IG p.lo p.hi r.rd&&(IG p.lo p.hi r.wr&&(IG r.lo r.hi p.rd&&(IG r.lo r.hi p.wr&&(o5 p.rd r.wr&&(o5 r.rd p.wr&&(o5 p.wr r.wr &&
  aP p.call (aP r.call false (akp r.wr)) (aP r.call (akp p.wr) true)))))))
def qh (m:Nat) (r:Rc):List Rc->Bool
 | []=>true
 |p::ps=>aP (rO m p.i) (qh m r ps) (aP (PJ p r) (qh m r ps) false)
def C0 (j:Nat):bq->Bool
 | []=>true
 |i::l=>aP (Nat.ble (Nat.succ i) j) (C0 j l) false
def lP:ee->bq
 |some (.ptr i _)=> [i]
 |some (.sl i _ _ _)=> [i]
 |some (.mp i)=> [i]
 |_=> []
def oX (tm:Tf):List Operand->bq
 | []=> []
 |x::xs=>lP (cD tm x)++oX tm xs
def idM:ee->bq
 |some (.mp i)=> [i]
 |_=> []
def Gw (tm:Tf):List Operand->bq
 | []=> []
 |x::xs=>idM (cD tm x)++Gw tm xs
def uI (c:Call):Bool:=
 match c.callee with
 | .builtin .len=>true
 |_=>false
def py (op:Op) (tm:Tf):bq:=
 match op with
 | .load _ x=>oX tm [x]
 | .store _ x y=>oX tm [x,y]
 | .lookup _ x k _=>oX tm [x,k]
 | .mapUpdate _ m k x=>oX tm [m,k,x]
 | .insert _ m k x=>oX tm [m,k,x]
 | .next it _=>oX tm [it]
 | .range _ x=>oX tm [x]
 | .call c=>aP (uI c) (Gw tm c.args.toList) (oX tm c.args.toList)
 |_=> []
def zd (new:Nat):dN->bq
 | []=> []
 |u::us=>aP (Nat.beq u.1 new) (zd new us) (u.1::zd new us)
def below (n:Nat):bq->bq->bq
 | [],acc=>acc
 |x::l,acc=>aP (Nat.ble (Nat.succ x) n) (below n l (x::acc)) (below n l acc)
def wC (m:Nat):List Rc->Hp->Hp
 | [],hp=>hp
 |p::ps,hp=>aP (rO m p.i) (wC m ps hp) (wC m ps (hp.set p.lo none))
def pH (m:Nat) (old:Hp):List Rc->Hp->Hp
 | [],hp=>hp
 |p::ps,hp=>aP (rO m p.i) (pH m old ps hp) (pH m old ps (hp.set p.lo (old.get p.lo)))
def Cr (rec:lH->Out) (nt W:Nat) (all:dd) (base i M m:Nat) (prev:List Rc) (l:dd) (tm:de) (d:bP) (r:Rc) (v:SV) (h:Hs):Out:=
 aP (qh m r prev) (force (Nat.lor M (Nat.shiftLeft m (Nat.mul i W))) λM'=>rec (.draw nt W all base (Nat.add i 1) M' (r::prev) l (iU tm d v) h)) (.fail "")
def asz (rec:lH->Out) (nt W:Nat) (all:dd) (base i M m:Nat) (prev:List Rc) (l:dd) (tm:de) (h:Hs) (o:Oper) (r:gm):Out:=
 @Option.rec (SV×dN) (λ_=>Out) (.fail o.pos) (λr=>Cr rec nt W all base i M m prev l tm o.dst ⟨i,false,py o.op tm.get,zd (Nat.add base i) r.2,Nat.add base i,Nat.add (Nat.add base i) 1⟩ r.1 (h.lQ r.2)) r
def doD (E:Env) (rec:lH->Out) (nt W:Nat) (all:dd) (base i M m:Nat) (prev:List Rc) (l:dd) (tm:de) (h:Hs) (o:Oper) (c:Option Call):Out:=
 @Option.rec Call (λ_=>Out) (asz rec nt W all base i M m prev l tm h o (qQ E o.op tm.get h.hp.get (Nat.add base i)))
  (λc=>auy rec ⟨wC m prev h.hp,h.nx,[]⟩ (sI tm.get c.callee) (fT tm.get c.args.toList) (λv h2=>
   Cr rec nt W all base i M m prev l tm o.dst ⟨i,true,[],below h.nx h2.lg [],h.nx,h2.nx⟩ v ⟨pH m h.hp prev h2.hp,h2.nx,below h.nx h2.lg h.lg⟩)
   λ_ _=>.fail "") c
def ajk (E:Env) (rec:lH->Out) (nt W:Nat) (all:dd) (base i M m:Nat) (prev:List Rc) (l:dd) (tm:de) (h:Hs) (o:Oper) (w:Option Bool):Out:=
 @Option.rec Bool (λ_=>Out) (.fail "") (λw=>aP w (doD E rec nt W all base i M m prev l tm h o (wM o.op)) (Cr rec nt W all base i M m prev l tm o.dst ⟨i,false,[],[],Nat.add base i,Nat.add (Nat.add base i) 1⟩ (.cS []) h)) w
def YS (E:Env) (rec:lH->Out) (nt W:Nat) (all:dd) (base i M:Nat) (prev:List Rc) (l:dd) (tm:de) (h:Hs):Out:=
 @List.rec Oper (λ_=>Out) (.st tm h) (λo l _=>aP (kZ nt o.dst && C0 i (l8 o)) (force (Nat.mod (nU W M (l8 o)) (Nat.pow 2 W)) λm=>ajk E rec nt W all base i M m prev l tm h o (gq all o tm.get)) (.fail "")) l
def YN:List Operand->bq
 | []=> []
 |x::xs=>(match x with| .tmp t=>t::YN xs|_=>YN xs)
def looks (all:dd) (o:Oper):bq:=YN o.op.operands.toList++(match o.guard with|some g=>(II all g.1).toList|none=> [])
def we (all:dd) (p r:Oper):Bool:=o5 p.dst.toList (looks all r)&&(o5 r.dst.toList (looks all p)&&o5 p.dst.toList r.dst.toList)
def A3 (all:dd) (m:Nat) (r:Oper):Nat->dd->Bool
 |_,[]=>true
 |k,p::ps=>aP (rO m k) (A3 all m r (Nat.sub k 1) ps) (aP (we all p r) (A3 all m r (Nat.sub k 1) ps) false)
def AD (W:Nat) (all:dd):dd->Nat->Nat->dd->Bool
 | [],_,_,_=>true
 |o::l,i,M,prev=>force (Nat.mod (nU W M (l8 o)) (Nat.pow 2 W)) λm=>aP (A3 all m o (Nat.sub i 1) prev) (force (Nat.lor M (Nat.shiftLeft m (Nat.mul i W))) λM'=>AD W all l (Nat.add i 1) M' (o::prev)) false
def codeOk (c:Code):Bool:= @Code.rec (λ_=>Bool) true (λ_ ops draw=>aP draw (AD ops.size ops.toList ops.toList 0 0 []) true) (λ_ _ a b=>a&&b) (λ_ _ _ a b=>a&&b) (λ_ _ a=>a) (λ_ a=>a) (λ_ _ _ _ a b=>a&&b) (λ_=>true) (λ_ a=>a) (λ_=>true) (λ_=>true) true (λ_=>true) c
def Xl (fn:Func):Bool:= @Option.rec Code (λ_=>Bool) true codeOk fn.body
def LG (e:Ex):Option ee:= @Ex.rec (λ_=>Option ee) (some none) (λ_=>none) (some none) (λv=>some (some v)) e
def yM (s:String):Bool:=s== "runtime.NumGoroutine"
def PC (e:Ex):Bool:= @Ex.rec (λ_=>Bool) true (λ_=>false) true (λ_=>false) e
def vo (e:Ex):Bool:= @Ex.rec (λ_=>Bool) true (λ_=>false) false (λ_=>false) e
def auS (E:Env) (fn:Func) (tm:de) (u:ee) (h:Hs):Out:=
 @Option.rec SV (λ_=>Out) (@Option.rec aY (λ_=>Out) (.fail fn.name) (λvs=>.res (oneOf vs) h) (sC E tm.get h.hp.get fn.results.toList)) (λv=>.fR v h) u
def Ep (E:Env) (fn:Func) (tm:de):List Dm->ee->Hs->Out
 | [],u,h=>auS E fn tm u h
 |_,_,_=>.fail ""
def Xt (nx:Nat) (lg:bq) (r:Out):Out:=aag r (λv h=>.res v ⟨h.hp,h.nx,below nx h.lg lg⟩) λv h=>.fR v ⟨h.hp,h.nx,below nx h.lg lg⟩
def aaf (E:Env) (rec:lH->Out) (fn:Func) (nx:Nat) (lg:bq) (r:Out):Out:=
 IF r λe tm mk h=> @Option.rec ee (λ_=>Out) (.fail "") (λu=>Xt nx lg (Ep E fn tm mk u h)) (LG e)
def auF (fn:Func) (aa:aY) (h:Hs):Out:=
 match aa with
 | [a,b]=>(match strOf a with|some a=>(match strOf b with|some b=>aP (fn.name== "internal/bytealg.abigen_runtime_cmpstring") (.res (.int .i64 (.lit (ET a b))) h) (.fail fn.name)|_=>.fail fn.name)|_=>.fail fn.name)
 |_=>.fail fn.name
def ach (E:Env) (rec:lH->Out) (k:Nat) (fn:Func) (aa:aY) (h:Hs):Out:=
 @Option.rec Code (λ_=>Out) (auF fn aa h) (λc=>aP (Nat.ble aa.length fn.ntmps) (aP (yM fn.name) (.fail "") (aaf E rec fn h.nx h.lg (rec (.code fn.ntmps c (setArgs aa 0 .nil) [] ⟨h.hp,h.nx,[]⟩)))) (.fail "")) fn.body
def zr (A B C:Nat) (svs:aY):aY:=svs.take A++((svs.drop B).take (Nat.sub C B)++(List.replicate (Nat.sub B A) .undef++svs.drop C))
def zp {J:Type} (xs:List J) (k:Nat) (ys:List J):List J:=xs.take k++(ys++xs.drop k)
def alG (off len sz:Nat):Cp->Bool
 | .k m=>Nat.ble (Nat.add off (Nat.mul m sz)) len
 | .u _=>true
def abX (sz:Nat) (f:Hf):aY->gm
 | [.sl id off n c,.int .i64 a,.int .i64 b]=>rP (UZ a) (UZ b) (nk (f id)) λi j p=>
   aP (Nat.ble (Nat.succ i) j&&(Nat.ble j n&&Nat.ble (Nat.add off (Nat.mul n sz)) p.2.length)) (some (.sl id off (Nat.sub n (Nat.sub j i)) c,[(id,some (.cells p.1 (zr (Nat.add off (Nat.mul i sz)) (Nat.add off (Nat.mul j sz)) (Nat.add off (Nat.mul n sz)) p.2)))])) none
 |_=>none
def abd (e:TypeId) (sz:Nat) (f:Hf) (new:Nat):aY->gm
 | [.sl id off n c,.int .i64 a,.sl Cz vk q c2]=>rP (UZ a) (nk (f id)) (nk (f Cz)) λi p p2=>
   aP (Nat.ble i n&&(Nat.ble 1 q&&(Nat.ble n 1000000&&(Nat.ble q 1000000&&(!Nat.beq id Cz&&(Nat.beq p.1 e&&(Nat.ble (Nat.add off (Nat.mul n sz)) p.2.length&&(Nat.ble (Nat.add vk (Nat.mul q sz)) p2.2.length&&alG off p.2.length sz c))))))))
    (some (.sl new 0 (Nat.add n q) (.u e),[(id,none),(new,some (.cells e (zp ((p.2.drop off).take (Nat.mul n sz)) (Nat.mul i sz) ((p2.2.drop vk).take (Nat.mul q sz)))))])) none
 |_=>none
def zn (x:Int):List Int->List Int
 | []=> [x]
 |y::ys=>if x<=y then x::y::ys else y::zn x ys
def lI:List Int->List Int
 | []=> []
 |x::xs=>zn x (lI xs)
def kT:List Int->List Int
 | []=> []
 |x::xs=>match xs with
  | []=> [x]
  |y::_=>if x=y then kT xs else x::kT xs
def ddZ (xs:List Int):List Int:=kT xs++List.replicate (xs.length-(kT xs).length) 0
def Ae (b:Bool) (xs:List Int):List Int:=aP b (lI xs) (ddZ xs)
def akt:SV->Option Int
 | .int .i64 (.lit x)=>some x
 |_=>none
def Lu (l:aY):Option (List Int):= @List.rec SV (λ_=>Option (List Int)) (some []) (λv _ ih=>bU (akt v) ih λx r=>some (x::r)) l
def mI (l:List Int):aY:=l.map λx=>.int .i64 (.lit x)
def PE (b:Bool) (f:Hf):aY->gm
 | [.dD]=>some (aP b (.cS []) .dD,[])
 | [.sl id off n c]=>aP (Nat.beq n 0) (some (aP b (.cS []) (.sl id off 0 c),[])) (az (nk (f id)) λp=>az (Lu ((p.2.drop off).take n)) λxs=>
   aP (Nat.ble 1 n&&(Nat.ble (Nat.add off n) p.2.length&&Nat.ble n 4294967295)) (some (aP b (.cS []) (.sl id off (kT xs).length c),[(id,some (.cells p.1 (p.2.take off++(mI (Ae b xs)++p.2.drop (Nat.add off n)))))])) none)
 |_=>none
def qw (E:Env) (c:Nat) (f:Hf) (new:Nat) (aa:aY):gm:=
 aP (Nat.ble 1048576 c) (PE (Nat.beq c 1048576) f aa) (az (E.ty.get (Nat.div c 2)) λie=>aP (Nat.beq (Nat.mod c 2) 0) (abX ie.size f aa) (abd (Nat.div c 2) ie.size f new aa))
def wi (k:Nat):List (Nat×Nat)->bP
 | []=>none
 |p::l=>aP (Nat.beq p.1 k) (some p.2) (wi k l)
def ald (h:Hs) (us:dN):Hs:=⟨(Hs.fin ⟨h.hp,h.nx,[]⟩ us).hp,(Hs.fin ⟨h.hp,h.nx,[]⟩ us).nx,below h.nx (Hs.fin ⟨h.hp,h.nx,[]⟩ us).lg h.lg⟩
def awK (h:Hs) (r:gm):Out:= @Option.rec (SV×dN) (λ_=>Out) (.fail "") (λp=>.res p.1 (ald h p.2)) r
def Li (E:Env) (k:Nat) (aa:aY) (h:Hs):Out:= @Option.rec Nat (λ_=>Out) (.fail "") (λc=>awK h (qw E c h.hp.get h.nx aa)) (wi k E.v8)
def auz (E:Env) (rec:lH->Out) (k:Nat) (fn:Option Func) (aa:aY) (h:Hs):Out:= @Option.rec Func (λ_=>Out) (Li E k aa h) (λfn=>ach E rec k fn aa h) fn
def alc (k:Nat):List (Nat×SV)->ee
 | []=>none
 |p::l=>aP (Nat.beq p.1 k) (some p.2) (alc k l)
def xZ (E:Env) (k:Nat) (aa:aY):ee:= @List.rec SV (λ_=>ee) (alc k E.done) (λ_ _ _=>none) aa
mutual
def ajY (τ:Nat->Nat):SV->SV
 | .bool b=>.bool b
 | .int k e=>.int k e
 | .str s=>.str s
 | .ptr a o=>.ptr (τ a) o
 | .qc=>.qc
 | .sl a o n c=>.sl (τ a) o n c
 | .sle=>.sle
 | .dD=>.dD
 | .mp a=>.mp (τ a)
 | .mn=>.mn
 | .fn f a c=>.fn f (Ck τ a) (Ck τ c)
 | .pb=>.pb
 | .agg l=>.agg (Ck τ l)
 | .cS l=>.cS (Ck τ l)
 | .undef=>.undef
def Ck (τ:Nat->Nat):aY->aY
 | []=> []
 |x::l=>ajY τ x::Ck τ l
end
def ajZ (τ:Nat->Nat):je->je
 | []=> []
 |e::l=>(ajY τ e.1,ajY τ e.2.1,e.2.2)::ajZ τ l
def renO (τ:Nat->Nat):SO->SO
 | .cells e cs=>.cells e (Ck τ cs)
 | .map es c=>.map (ajZ τ es) c
 |o=>o
def aED:SO->Bool
 | .cells _ _=>true
 | .map _ _=>true
 |_=>false
mutual
def avk:SV->SV->List (Nat×Nat)
 | .ptr a _,.ptr b _=> [(a,b)]
 | .sl a _ _ _,.sl b _ _ _=> [(a,b)]
 | .mp a,.mp b=> [(a,b)]
 | .fn _ a c,.fn _ a' c'=>LL a a'++LL c c'
 | .agg l,.agg l'=>LL l l'
 | .cS l,.cS l'=>LL l l'
 |_,_=> []
def LL:aY->aY->List (Nat×Nat)
 |x::l,y::m=>avk x y++LL l m
 |_,_=> []
end
def ayu:je->je->List (Nat×Nat)
 |x::l,y::m=>avk x.1 y.1++(avk x.2.1 y.2.1++ayu l m)
 |_,_=> []
def oQ:SO->Option SO->List (Nat×Nat)
 | .cells _ cs,some (.cells _ cs')=>LL cs cs'
 | .map es _,some (.map CH _)=>ayu es CH
 |_,_=> []
def fnK (E:Env) (rec:lH->Out) (f:Fn) (aa:aY) (h:Hs):Out:=
 match f with
 | .func k=> @Option.rec SV (λ_=>Out) (auz E rec k (E.fn.get k) aa h) (λv=>.res v h) (xZ E k aa)
 |_=>.fail ""
def Qa (x:SV):Env->(lH->Out)->aY->Hs->Out:=match x with
 | .fn f first eG=>λE rec aa h=>fnK E rec f (first++aa++eG) h
 |_=>λ_ _ _ _=>.fail ""
def step (E:Env) (rec:lH->Out) (j:lH):Out:=
 @lH.rec (λ_=>Out) (λnt c tm mk h=>ayv c E rec nt tm mk h) (λnt all l tm mk h=>agl E rec nt all l tm mk h) (λnt W all base i M prev l tm h=>YS E rec nt W all base i M prev l tm h) (λf aa h=>Qa f E rec aa h) j
def run (E:Env) (n:Nat):lH->Out:= @Nat.rec (λ_=>lH->Out) (λ_=>.fail "") (λ_ ih j=>step E ih j) n
end Go.bZ
namespace Go.bZ
open Go.RowKit
variable {J γ O:Type} {b c nt o n i off k l new M:Nat} {x ox:Operand} {r z v u u1:Value} {a:Act} {w' w0:World} {e t src tx ty:TypeId} {p:ByteArray×Nat} {s:ByteArray} {q fz:Nat×Nat} {neg:Bool} {ob:Obj} {parts:Array (Nat×Value)} {it:TypeInfo} {kl kk:IntKind} {lo:Option Operand} {base:Option Addr}
section
variable {δ:Type} {w:World}
def bG (b:Bool) (x y:J):aP b x y=if b=true then x else y:=by cases b<;>rfl
def aV {b:Bool} {x:Option J} {r:J} (h:aP b x none=some r):b=true/\x=some r:=by
 cases b
 ·simp[aP] at h
 ·exact ⟨rfl,h⟩
def aq {x:Option J} {f:J->Option γ} {r:γ} (h:az x f=some r):∃a,x=some a/\f a=some r:=by
 cases x with
 |none=>cases h
 |some a=>exact ⟨a,rfl,h⟩
def bp {x:Option J} {y:Option O} {f:J->O->Option γ} {r:γ} (h:bU x y f=some r):∃a b,x=some a/\y=some b/\f a b=some r:=by
 cases x with
 |none=>cases h
 |some a=>
  cases y with
  |none=>cases h
  |some b=>exact ⟨a,b,rfl,rfl,h⟩
def pY {x:Option J} {y:Option O} {z:Option δ} {f:J->O->δ->Option γ} {r:γ} (h:rP x y z f=some r):∃a b c,x=some a/\y=some b/\z=some c/\f a b c=some r:=by
 obtain ⟨a,ha,h⟩:=aq h;obtain ⟨b,c,hb,hc,h⟩:=bp h;exact ⟨a,b,c,ha,hb,hc,h⟩
def beq_iff (a b:Nat):Nat.beq a b=true↔a=b:=⟨Nat.eq_of_beq_eq_true,λh=>by subst h;exact Nat.beq_refl a⟩
def beq_eq (a b:Nat):Nat.beq a b=decide (a=b):=by
 rw[ly,beq_iff];simp
def bV (a b:Nat):Nat.ble a b=true↔a<=b:=by rw[Nat.ble_eq]
def ble_eq (a b:Nat):Nat.ble a b=decide (a<=b):=by
 rw[ly,bV];simp
def Tr.get_nil (i:Nat):(Tr.nil:Tr J).get i=none:=rfl
def Tr.BA (l r:Tr J) (v:Option J) (i:Nat):(Tr.node l v r).get i=if i=0 then v else if i % 2=1 then l.get (i / 2) else r.get (i / 2-1):=by
 show aP (Nat.beq i 0) v (aP (Nat.beq (Nat.mod i 2) 1) (l.get (Nat.div i 2)) (r.get (Nat.sub (Nat.div i 2) 1)))=_;rw[bG,bG,beq_eq,beq_eq];simp only[jW];rfl
def Tr.left {J:Type}:Tr J->Tr J
 | .nil=>.nil
 | .node l _ _=>l
def Tr.right {J:Type}:Tr J->Tr J
 | .nil=>.nil
 | .node _ _ r=>r
def Tr.val {J:Type}:Tr J->Option J
 | .nil=>none
 | .node _ v _=>v
def Tr.Jm (t:Tr J) (i:Nat):t.get i=if i=0 then t.val else if i % 2=1 then t.left.get (i / 2) else t.right.get (i / 2-1):=by
 cases t with
 |nil=>simp[Tr.val,Tr.left,Tr.right,Tr.get_nil]
 |node l v r=>rw[Tr.BA];rfl
def Tr.aoM (n:Nat) (t:Tr J) (i:Nat) (x:Option J):Tr.Is (n+1) t i x=
  if i=0 then .node t.left x t.right else if i % 2=1 then .node (Tr.Is n t.left (i / 2) x) t.val t.right else .node t.left t.val (Tr.Is n t.right (i / 2-1) x):=by
 have e:Tr.Is (n+1) t i x=aP (Nat.beq i 0) (Tr.node t.left x t.right) (aP (Nat.beq (Nat.mod i 2) 1) (.node (Tr.Is n t.left (Nat.div i 2) x) t.val t.right) (.node t.left t.val (Tr.Is n t.right (Nat.sub (Nat.div i 2) 1) x))):=by
  cases t<;>rfl
 rw[e,bG,bG,beq_eq,beq_eq];simp only[jW];rfl
def Tr.NH {J:Type}:∀(n:Nat) (t:Tr J) (i j:Nat) (x:Option J),i<n->(Tr.Is n t i x).get j=if j=i then x else t.get j
 |0,_,_,_,_,h=>by omega
 |n+1,t,i,j,x,h=>by
  rw[Tr.aoM];by_cases h0:i=0
  ·subst h0;rw[aH rfl,Tr.BA];by_cases hj:j=0
   ·simp[hj]
   ·rw[aM hj,aM hj,Tr.Jm t j,aM hj]
  ·rw[aM h0];by_cases h1:i % 2=1
   ·rw[aH h1,Tr.BA,Tr.Jm t j];by_cases hj:j=0
    ·subst hj;rw[aH rfl,aH rfl,aM (by omega)]
    ·rw[aM hj,aM hj];by_cases hj1:j % 2=1
     ·rw[aH hj1,aH hj1,Tr.NH n _ _ _ _ (by omega)]
      by_cases e:j=i
      ·rw[aH e,aH (by omega)]
      ·rw[aM e,aM (by omega)]
     ·rw[aM hj1,aM hj1,aM (by omega)]
   ·rw[aM h1,Tr.BA,Tr.Jm t j];by_cases hj:j=0
    ·subst hj;rw[aH rfl,aH rfl,aM (by omega)]
    ·rw[aM hj,aM hj];by_cases hj1:j % 2=1
     ·rw[aH hj1,aH hj1,aM (by omega)]
     ·rw[aM hj1,aM hj1,Tr.NH n _ _ _ _ (by omega)]
      by_cases e:j=i
      ·rw[aH e,aH (by omega)]
      ·rw[aM e,aM (by omega)]
def Tr.pB (t:Tr J) (i j:Nat) (x:Option J):(t.set i x).get j=if j=i then x else t.get j:=Tr.NH (i+1) t i j x (by omega)
structure Gh where
 η:Nat->Int
 sz:TypeId->Nat
 Z:Nat->Option (Nat×Nat)
 lim:Nat->Nat
 et:Nat->TypeId
 wb:Nat->Option Obj
structure Gh.le (g g':Gh):Prop where
 η:g'.η=g.η
 sz:g'.sz=g.sz
 Z:∀id p,g.Z id=some p->g'.Z id=some p
 lim:∀id p,g.Z id=some p->g'.lim id=g.lim id
 et:∀id p,g.Z id=some p->g'.et id=g.et id
 wb:g'.wb=g.wb
def Gh.le.refl (g:Gh):g.le g:=⟨rfl,rfl,λ_ _ h=>h,λ_ _ _=>rfl,λ_ _ _=>rfl,rfl⟩
def Gh.le.trans {a b c:Gh} (h:a.le b) (k:b.le c):a.le c:=
 ⟨k.η.trans h.η,k.sz.trans h.sz,λid p q=>k.Z id p (h.Z id p q),λid p q=>(k.lim id p (h.Z id p q)).trans (h.lim id p q),λid p q=>(k.et id p (h.Z id p q)).trans (h.et id p q),k.wb.trans h.wb⟩
mutual
inductive VR (g:Gh):Value->SV->Prop
 |bool (b:_):VR g (.bool b) (.bool b)
 |int (k e:_) {n:Int} (h:n=e.ev g.η):VR g (.int k n) (.int k e)
 |str (s:_):VR g (.string s) (.str s)
 |ptr {id off b o:_} (h:g.Z id=some (b,o)):VR g (.pointer (some ⟨b,o+off,none⟩)) (.ptr id off)
 |qc:VR g (.pointer none) .qc
 |sl {id off n b o c:_} {cap:Cp} (h:g.Z id=some (b,o)) (hn:n<=c) (hc:∀m,cap= .k m->c=m) (hl:∀e,cap= .u e->g.et id=e/\off+c*g.sz e<=g.lim id):VR g (.slice (some ⟨b,o+off,none⟩) n c) (.sl id off n cap)
 |sle {a c:_}:VR g (.slice a 0 c) .sle
 |dD:VR g (.slice none 0 0) .dD
 |mp {id b o:_} (h:g.Z id=some (b,o)):VR g (.map (some b)) (.mp id)
 |mn:VR g (.map none) .mn
 |fn {f:FuncId} {first eG:hY} {fs cs:aY} (h1:j6 g first.toList fs) (h2:j6 g eG.toList cs):VR g (.func (.func f) first eG) (.fn (.func f) fs cs)
 |pb:VR g .nilFunc .pb
 |agg {vs:hY} {cs:_} (h:gL g vs.toList cs):VR g (.agg vs) (.agg cs)
 |cS {vs:hY} {cs:_} (h:j6 g vs.toList cs):VR g (.tuple vs) (.cS cs)
 |undef (v:_):VR g v .undef
inductive j6 (g:Gh):fq->aY->Prop
 |nil:j6 g [] []
 |cons {v x vs xs:_} (h:VR g v x) (ht:j6 g vs xs):j6 g (v::vs) (x::xs)
inductive gL (g:Gh):fq->aY->Prop
 |nil:gL g [] []
 |cons {v x vs xs:_} (h1:v.oneCell'=true) (h:VR g v x) (ht:gL g vs xs):gL g (v::vs) (x::xs)
end
mutual
def VR.mono {g g':Gh} (hle:g.le g'):∀{v x},VR g v x->VR g' v x
 |_,_,.bool b=>.bool b
 |_,_,.int k e h=>.int k e (by rw[hle.η];exact h)
 |_,_,.str s=>.str s
 |_,_,.ptr h=>.ptr (hle.Z _ _ h)
 |_,_,.qc=>.qc
 |_,_,.sl h hn hc hl=>.sl (hle.Z _ _ h) hn hc (λe he=>by rw[hle.sz,hle.et _ _ h,hle.lim _ _ h];exact hl e he)
 |_,_,.sle=>.sle
 |_,_,.dD=>.dD
 |_,_,.mp h=>.mp (hle.Z _ _ h)
 |_,_,.mn=>.mn
 |_,_,.fn h1 h2=>.fn (h1.mono hle) (h2.mono hle)
 |_,_,.pb=>.pb
 |_,_,.agg h=>.agg (h.mono hle)
 |_,_,.cS h=>.cS (h.mono hle)
 |_,_,.undef v=>.undef v
def j6.mono {g g':Gh} (hle:g.le g'):∀{v x},j6 g v x->j6 g' v x
 |_,_,.nil=>.nil
 |_,_,.cons h ht=>.cons (h.mono hle) (ht.mono hle)
def gL.mono {g g':Gh} (hle:g.le g'):∀{v x},gL g v x->gL g' v x
 |_,_,.nil=>.nil
 |_,_,.cons h1 h ht=>.cons h1 (h.mono hle) (ht.mono hle)
end
variable {g:Gh} {P:Program}
def gL.length:∀{vs:fq} {cs:aY},gL g vs cs->vs.length=cs.length
 |_,_,.nil=>rfl
 |_,_,.cons _ _ ht=>by simp[ht.length]
def j6.length:∀{vs:fq} {cs:aY},j6 g vs cs->vs.length=cs.length
 |_,_,.nil=>rfl
 |_,_,.cons _ ht=>by simp[ht.length]
def gL.get:∀{vs:fq} {cs:aY},gL g vs cs->∀{j:Nat} {x:SV},cs[j]? =some x->∃v,vs[j]? =some v/\v.oneCell'=true/\VR g v x
 |_,_,.nil,_,_,h=>by simp at h
 |_,_,.cons h1 hd ht,j,x,h=>by
  cases j with
  |zero=>simp at h;subst h;exact ⟨_,rfl,h1,hd⟩
  |succ j=>simp at h;obtain ⟨v,a,b,c⟩:=ht.get h;exact ⟨v,by simpa using a,b,c⟩
def j6.get:∀{vs:fq} {cs:aY},j6 g vs cs->∀{j:Nat} {x:SV},cs[j]? =some x->∃v,vs[j]? =some v/\VR g v x
 |_,_,.nil,_,_,h=>by simp at h
 |_,_,.cons hd ht,j,x,h=>by
  cases j with
  |zero=>simp at h;subst h;exact ⟨_,rfl,hd⟩
  |succ j=>simp at h;obtain ⟨v,a,c⟩:=ht.get h;exact ⟨v,by simpa using a,c⟩
def gL.append:∀{vs us:fq} {cs ds:aY},gL g vs cs->gL g us ds->gL g (vs++us) (cs++ds)
 |_,_,_,_,.nil,k=>k
 |_,_,_,_,.cons h1 hd ht,k=>.cons h1 hd (ht.append k)
def j6.append:∀{vs us:fq} {cs ds:aY},j6 g vs cs->j6 g us ds->j6 g (vs++us) (cs++ds)
 |_,_,_,_,.nil,k=>k
 |_,_,_,_,.cons hd ht,k=>.cons hd (ht.append k)
def gL.drop:∀{vs:fq} {cs:aY} (n:Nat),gL g vs cs->gL g (vs.drop n) (cs.drop n)
 |_,_,0,h=>h
 |_,_,n+1,.nil=>by simpa using .nil
 |_,_,n+1,.cons _ _ ht=>by simpa using ht.drop n
def gL.take:∀{vs:fq} {cs:aY} (n:Nat),gL g vs cs->gL g (vs.take n) (cs.take n)
 |_,_,0,_=>by simpa using .nil
 |_,_,n+1,.nil=>by simpa using .nil
 |_,_,n+1,.cons h1 hd ht=>by simpa using .cons h1 hd (ht.take n)
def gL.one:∀{vs:fq} {cs:aY},gL g vs cs->∀v∈vs,v.oneCell'=true
 |_,_,.nil,v,hv=>by simp at hv
 |_,_,.cons h1 _ ht,v,hv=>by
  rcases cH.1 hv with rfl|hv
  ·exact h1
  ·exact ht.one v hv
def gL.mk:∀{vs:fq} {cs:aY},vs.length=cs.length->(∀(j:Nat) (v:Value) (x:SV),vs[j]? =some v->cs[j]? =some x->v.oneCell'=true/\VR g v x)->gL g vs cs
 | [],[],_,_=>.nil
 |v::vs,x::xs,hl,h=>by
  obtain ⟨a,b⟩:=h 0 v x rfl rfl;exact .cons a b (gL.mk (by simpa using hl) λj v x hv hx=>h (j+1) v x (by simpa using hv) (by simpa using hx))
 | [],_::_,hl,_=>by simp at hl
 |_::_,[],hl,_=>by simp at hl
structure Cells (g:Gh) (w:World) (id b o:Nat) (e:TypeId) (cs:aY):Prop where
 mem:∃cur:hY,w.heap[b]? =some (.cells cur e (0,0))/\o+g.lim id<=cur.size/\∃vs,gL g vs cs/\∀j v,vs[j]? =some v->cur[o+j]? =some v
 et:g.et id=e
def amO (g:Gh) (m:MapEntry) (x:SV×SV×Nat):Prop:=VR g m.key x.1/\VR g m.val x.2.1/\m.born=x.2.2
inductive iD (g:Gh):List MapEntry->je->Prop
 |nil:iD g [] []
 |cons {m x ms xs:_} (h:amO g m x) (ht:iD g ms xs):iD g (m::ms) (x::xs)
def iD.mono {g g':Gh} (hle:g.le g'):∀{ms:List MapEntry} {xs:je},iD g ms xs->iD g' ms xs
 |_,_,.nil=>.nil
 |_,_,.cons h ht=>.cons ⟨h.1.mono hle,h.2.1.mono hle,h.2.2⟩ (ht.mono hle)
structure FR (g:Gh) (nt:Nat) (tm:Tf) (tmps:hY):Prop where
 sz:tmps.size=nt
 tm:∀t x,tm t=some x->VR g (tmps.getD t undef) x
def FR.mono {g g':Gh} (hle:g.le g') {tm:Tf} {tmps:hY} (h:FR g nt tm tmps):FR g' nt tm tmps:=⟨h.sz,λt x hx=>(h.tm t x hx).mono hle⟩
def OR (g:Gh) (w:World) (id b o:Nat):SO->Prop
 | .cells e cs=>Cells g w id b o e cs
 | .map es c=>∃ms,w.heap[b]? =some (.map ms c)/\iD g ms.toList es
 | .nA s pos=>o=0/\w.heap[b]? =some (.stringIter s pos)
 | .mapIter mp since seen last=>o=0/\∃(bm:bP) (sa:Array Nat),w.heap[b]? =some (.mapIter bm since sa last)/\sa.toList=seen/\(match mp with|none=>bm=none|some m=>∃x y,bm=some x/\g.Z m=some (x,y))
 | .dfr=>w.heap[b]? =some (.deferred (some []))
 | .ro cs=>∃(cur:hY) (e:TypeId) (fz:Nat×Nat),w.heap[b]? =some (.cells cur e fz)/\g.wb b=some (.cells cur e fz)/\∀j x,cs[j]? =some x->∃v,cur[o+j]? =some v/\(HI x=false->v.oneCell'=true/\VR g v x)
def Cells.mono {g g':Gh} (hle:g.le g') {id:Nat} {cs:aY} (hρ:g.Z id=some (b,o)) (h:Cells g w id b o e cs) (hw:w'.heap[b]? =w.heap[b]?):Cells g' w' id b o e cs:=by
 obtain ⟨⟨cur,h1,h0,vs,h2,h3⟩,h4⟩:=h;exact ⟨⟨cur,hw.trans h1,by rw[hle.lim _ _ hρ];exact h0,vs,h2.mono hle,h3⟩,(hle.et _ _ hρ).trans h4⟩
def OR.mono {g g':Gh} (hle:g.le g') {id:Nat} {x:SO} (hρ:g.Z id=some (b,o)) (h:OR g w id b o x) (hw:w'.heap[b]? =w.heap[b]?):OR g' w' id b o x:=by
 cases x with
 |cells e cs=>exact Cells.mono hle hρ h hw
 |map es c=>obtain ⟨ms,h1,h2⟩:=h;exact ⟨ms,hw.trans h1,h2.mono hle⟩
 |nA s pos=>exact ⟨h.1,hw.trans h.2⟩
 |mapIter mp since seen last=>
  obtain ⟨h0,bm,sa,h1,h2,h3⟩:=h;refine ⟨h0,bm,sa,hw.trans h1,h2,?_⟩;cases mp with
  |none=>exact h3
  |some m=>obtain ⟨x,y,e1,e2⟩:=h3;exact ⟨x,y,e1,hle.Z _ _ e2⟩
 |dfr=>exact hw.trans h
 |ro cs=>
  obtain ⟨cur,e,fz,h1,h0,h2⟩:=h;refine ⟨cur,e,fz,hw.trans h1,(congrFun hle.wb b).trans h0,λj x hx=> ?_⟩
  obtain ⟨v,a,b⟩:=h2 j x hx;exact ⟨v,a,λhu=>⟨(b hu).1,(b hu).2.mono hle⟩⟩
structure HR (g:Gh) (hp:Hf) (w:World):Prop where
 ob:∀id o,hp id=some o->∃b c,g.Z id=some (b,c)/\b<w.heap.size/\OR g w id b c o
 inj:∀i j x y b c d,hp i=some x->hp j=some y->g.Z i=some (b,c)->g.Z j=some (b,d)->i=j
def ams (g:Gh) (hp:Hf) (b:Nat):Prop:=∃id o c,hp id=some o/\g.Z id=some (b,c)
structure Fr (g:Gh) (hp:Hf) (w:World) (g':Gh) (yS:Hf) (w':World):Prop where
 os:w'.os=w.os
 tape:w'.tape=w.tape
 output:w'.output=w.output
 size:w.heap.size<=w'.heap.size
 le:g.le g'
 old:∀b,b<w.heap.size->¬ams g hp b->w'.heap[b]? =w.heap[b]?
 own:∀b,b<w.heap.size->ams g' yS b->ams g hp b
def Fr.refl (g:Gh) (hp:Hf) (w:World):Fr g hp w g hp w:=⟨rfl,rfl,rfl,dg _,.refl _,λ_ _ _=>rfl,λ_ _ h=>h⟩
def Fr.trans {g g1 g2:Gh} {h h1 h2:Hf} {w1 w2:World} (a:Fr g h w g1 h1 w1) (b:Fr g1 h1 w1 g2 h2 w2):Fr g h w g2 h2 w2:=
 ⟨b.os.trans a.os,b.tape.trans a.tape,b.output.trans a.output,jf a.size b.size,a.le.trans b.le,
  λk hk hn=>(b.old k (my hk a.size) (λhm=>hn (a.own k hk hm))).trans (a.old k hk hn),
  λk hk hm=>a.own k hk (b.own k (my hk a.size) hm)⟩
end
def Ct {e:SI} (h:UZ e=some n):e= .lit (.ofNat n):=by
 unfold UZ at h;split at h
 ·simp at h;subst h;rfl
 ·simp at h
def ub {x:SV} (h:kY x=some n):∃k,x= .int k (.lit (.ofNat n)):=by
 cases x<;>first|(exact ⟨_,by rw[Ct h]⟩)|cases h
def uO {x:SV} {b:Bool} (h:oT x=some b):x= .bool b:=by cases x<;>cases h<;>rfl
def rH {x:SV} {p:IntKind×SI} (h:intOf x=some p):x= .int p.1 p.2:=by cases x<;>cases h<;>rfl
def mS {x:SV} (h:strOf x=some s):x= .str s:=by cases x<;>cases h<;>rfl
def od {x:SV} (h:uX x=some q):x= .ptr q.1 q.2:=by cases x<;>cases h<;>rfl
def An {x:SV} {cs:aY} (h:G4 x=some cs):x= .agg cs:=by cases x<;>cases h<;>rfl
def ajq {x:SV} {cs:aY} (h:Oq x=some cs):x= .cS cs:=by cases x<;>cases h<;>rfl
def Wb {x:SV} (h:ats x=some i):x= .mp i:=by cases x<;>cases h<;>rfl
def aoK {x:SV} {q:Nat×Nat×Nat×Cp} (h:asS x=some q):x= .sl q.1 q.2.1 q.2.2.1 q.2.2.2:=by cases x<;>cases h<;>rfl
def Wg {x:SV} (h:U1 x=some n):(∃i o c,x= .sl i o n c)\/(x= .dD/\n=0)\/(x= .sle/\n=0):=by
 cases x<;>first|(cases h;exact .inl ⟨_,_,_,rfl⟩)|(cases h;exact .inr (.inl ⟨rfl,rfl⟩))|(cases h;exact .inr (.inr ⟨rfl,rfl⟩))|cases h
def ako {x y:SV} (h:Pm x=some y):y=x/\((∃i o,x= .ptr i o)\/∃f a c,x= .fn f a c):=by
 cases x<;>first|(cases h;exact ⟨rfl,.inl ⟨_,_,rfl⟩⟩)|(cases h;exact ⟨rfl,.inr ⟨_,_,_,rfl⟩⟩)|cases h
def uF {d:UD} (h:qL d=some e):d= .slice e:=by cases d<;>cases h<;>rfl
def Ih {d:UD} {fs:List FL} (h:xB d=some fs):d= .struct fs:=by cases d<;>cases h<;>rfl
def IP {d:UD} {q:TypeId×TypeId} (h:Bh d=some q):d= .map q.1 q.2:=by cases d<;>cases h<;>rfl
def afU {d:UD} (h:Ew d=true):d= .string:=by cases d<;>cases h<;>rfl
def aaY {d:UD} (h:Lt d=true):d= .bool:=by cases d<;>cases h<;>rfl
def kU {o:Option SO} {p:TypeId×aY} (h:nk o=some p):o=some (.cells p.1 p.2):=by
 unfold nk at h;split at h
 ·simp at h;subst h;rfl
 ·simp at h
def yJ {o:Option SO} {p:je×Nat} (h:j1 o=some p):o=some (.map p.1 p.2):=by
 unfold j1 at h;split at h
 ·simp at h;subst h;rfl
 ·simp at h
def PB {o:Option SO} (h:Ls o=some p):o=some (.nA p.1 p.2):=by
 unfold Ls at h;split at h
 ·simp at h;subst h;rfl
 ·simp at h
def ni {a b:IntKind} (h:gF a b=true):a=b:=by
 cases a<;>cases b<;>first|rfl|(simp[gF] at h)
def akz (a:IntKind):gF a a=true:=by cases a<;>rfl
def AH (a b:Int):Gu a b=decide (a=b):=by
 cases a<;>cases b<;>simp[Gu,beq_eq]
 rename_i m n;exact ⟨λh=>by rw[h],λh=>Sz h⟩
def vp (a b:Int):Af a b=decide (a<b):=by
 cases a<;>cases b<;>simp only[Af,ble_eq,Km]
 ·rename_i m n;simp only[DM];omega
 ·rename_i m n;simp only[eq_comm (a:=false),decide_eq_false_iff_not,DM];omega
 ·rename_i m n;simp only[eq_comm (a:=true),jW,DM];omega
 ·rename_i m n;omega
def JW (P:Program) (t:TypeId):UD->Prop
 | .bool=>P.underlying t=some .bool
 | .int k=>P.underlying t=some (.int k)
 | .string=>P.underlying t=some .string
 | .pointer=>∃e,P.underlying t=some (.pointer e)
 | .slice e=>P.underlying t=some (.slice e)
 | .array n e=>P.underlying t=some (.array n e)
 | .map k e=>P.underlying t=some (.map k e)
 | .struct fs=>∃a:Array Field,P.underlying t=some (.struct a)/\a.toList.map (λf=>FL.mk f.type f.offset (decide (f.name≠ "_")))=fs/\∀f∈a.toList,(P.info? f.type).isSome=true
 | .func=>∃a b c,P.underlying t=some (.func a b c)
 | .interface=>∃ms,P.underlying t=some (.interface ms)
 | .other=>False
def acy (agg:Bool) (z:Value) (cs:aY):Prop:=
 (∀g,gL g z.cells.toList cs)/\(agg=true->∃a,z= .agg a)/\(agg=false->z.oneCell'=true)
structure BO (P:Program) (t:TypeId) (i:TI):Prop where
 desc:JW P t i.desc
 info:∃f z,P.info? t=some f/\f.size=i.size/\f.bytes=i.bytes/\f.comparable=i.comparable/\f.zero=some z/\acy (lY i.desc) z i.zero/\(lY i.desc=true->i.zero.length=i.size)
structure dV (E:Env) (g:Gh):Prop where
 ty:∀t i,E.ty.get t=some i->BO E.P t i
 fn:∀f x,E.fn.get f=some x->E.P.funcs[f]? =some x
 lt:∀a b r,(a,b,r)∈E.lt->decide (a.ev g.η<b.ev g.η)=r
 eq:∀a b r,(a,b,r)∈E.eq->decide (a.ev g.η=b.ev g.η)=r
 mix:E.P.follows .mixedOrders=true
 sz:∀t,g.sz t=E.P.cellsOf t
def dV.mono {E:Env} {g g':Gh} (h:dV E g) (hle:g.le g'):dV E g':=
 ⟨h.ty,h.fn,λa b r hm=>by rw[hle.η];exact h.lt a b r hm,λa b r hm=>by rw[hle.η];exact h.eq a b r hm,h.mix,λt=>by rw[hle.sz];exact h.sz t⟩
def dV.size {E:Env} {g:Gh} (h:dV E g) {i:TI} (hi:E.ty.get t=some i):g.sz t=i.size:=by
 obtain ⟨f,z,h1,h2,_⟩:=(h.ty t i hi).info;rw[h.sz,Program.cellsOf,h1];simpa using h2
def xP {E:Env} {g:Gh} (hE:dV E g) {a b:SI} {r:Bool} (h:Cv E a b=some r):decide (a.ev g.η<b.ev g.η)=r:=by
 unfold Cv at h;split at h
 ·simp at h;subst h;rw[vp];rfl
def NL {E:Env} {g:Gh} (hE:dV E g) {a b:SI} {r:Bool} (h:eqI E a b=some r):decide (a.ev g.η=b.ev g.η)=r:=by
 unfold eqI at h;split at h
 ·simp at h;subst h;rw[AH];rfl
def Qb:∀(a b:List UInt8),sj a b=decide (a=b)
 | [],[]=>by simp[sj]
 | [],_::_=>by simp[sj]
 |_::_,[]=>by simp[sj]
 |a::l,b::m=>by
  rw[sj,Qb l m,beq_eq,ly];simp only[bF,jW,List.cons.injEq];rw[<-UInt8.toNat_inj]
def vD (a b:ByteArray):De a b=decide (a=b):=by
 unfold De;rw[Qb,Km];constructor
 ·intro h;cases a with|mk a=>cases b with|mk b=>simp at h;simp[h]
 ·intro h;rw[h]
def A6 {J:Type} {P:Program}:∀{s:Sem J} {a:J},nF P s=some a->∀w,s.run P w= .ok a w
 | .pure a,_,h,w=>by simp[nF] at h;subst h;rfl
 | .program k,a,h,w=>A6 (s:=k P) h w
 | .load ..,_,h,_| .store ..,_,h,_| .new ..,_,h,_| .shape ..,_,h,_| .freeze ..,_,h,_| .frozen ..,_,h,_| .getObj ..,_,h,_| .setObj ..,_,h,_| .choose ..,_,h,_| .sys ..,_,h,_| .mark ..,_,h,_| .halt _,_,h,_=>by simp[nF] at h
mutual
def wG (g:Gh):∀(v:Value),VR g v (ue v)
 | .bool b=>.bool b
 | .int k n=>.int k _ rfl
 | .string s=>.str s
 | .pointer none=>.qc
 | .pointer (some _)=>.undef _
 | .slice none 0 0=>.dD
 | .slice none 0 (_+1)=>.undef _
 | .slice none (_+1) _=>.undef _
 | .slice (some _) _ _=>.undef _
 | .map none=>.mn
 | .map (some _)=>.undef _
 | .nilFunc=>.pb
 | .agg ⟨cs⟩=>by
  unfold ue;rw[bG];split
  ·rename_i hc;refine .agg ?_;have hr:=Dz g cs;refine gL.mk hr.length λj v x hv hx=> ?_
   obtain ⟨u,hu,hd⟩:=hr.get hx;have hv:cs[j]? =some v:=hv;rw[hv] at hu;obtain rfl:v=u:=by simpa using hu
   exact ⟨iT.1 hc v (cN hv),hd⟩
  ·exact .undef _
 | .tuple ⟨cs⟩=>.cS (Dz g cs)
 | .float _ _| .complex _ _ _| .chan _| .func _ _ _| .iface _ _| .nilIface=>.undef _
def Dz (g:Gh):∀(vs:fq),j6 g vs (rM vs)
 | []=>.nil
 |v::vs=>.cons (wG g v) (Dz g vs)
end
section
variable {E:Env} {g:Gh} {w:World}
variable {P:Program}
def z6 {i:TI} (h:BO P t i) (w:World):(isAgg t).run P w= .ok (lY i.desc) w:=by
 have hd:=h.desc;generalize i.desc=d at hd;cases d<;>simp only[JW] at hd
 case pointer=>obtain ⟨e,he⟩:=hd;simp only[isAgg,Sem.run_bind,run_underlying he,Result.andThen_ok];rfl
 case struct=>obtain ⟨e,he,_⟩:=hd;simp only[isAgg,Sem.run_bind,run_underlying he,Result.andThen_ok];rfl
 case func=>obtain ⟨_,_,_,he⟩:=hd;simp only[isAgg,Sem.run_bind,run_underlying he,Result.andThen_ok];rfl
 case interface=>obtain ⟨e,he⟩:=hd;simp only[isAgg,Sem.run_bind,run_underlying he,Result.andThen_ok];rfl
 all_goals (simp only[isAgg,Sem.run_bind,run_underlying hd,Result.andThen_ok];rfl)
def oD {i:TI} (h:BO P t i) (w:World):(sizeOf t).run P w= .ok i.size w:=by
 obtain ⟨f,z,h1,h2,_⟩:=h.info;simp[sizeOf,typeInfo,h1,h2]
def aaa {i:TI} (h:BO P t i):∃z,(∀w,(zeroValue t).run P w= .ok z w)/\acy (lY i.desc) z i.zero/\(lY i.desc=true->i.zero.length=i.size):=by
 obtain ⟨f,z,h1,_,_,_,h5,h6⟩:=h.info;exact ⟨z,λw=>by simp[zeroValue,typeInfo,h1,h5],h6⟩
def Aa {i:TI} (hi:BO P t i) {cs:aY} {x:SV} {vs:hY} (h:ia i cs off=some x) (hc:gL g vs.toList cs) (w:World):
  ∃v,(part t vs off).run P w= .ok v w/\VR g v x:=by
 unfold ia at h;rw[bG] at h;split at h
 ·rename_i ha;obtain ⟨hl,h⟩:=aV h;simp at h;subst h;refine ⟨.agg (vs.extract off (off+i.size)),?_,.agg ?_⟩
  ·simp only[part,Sem.run_bind,z6 hi,Result.andThen_ok,ha,aB,oD hi,Sem.run_pure]
  ·have:(vs.extract off (off+i.size)).toList=(vs.toList.drop off).take i.size:=by simp[List.extract_eq_take_drop]
   rw[this];exact (hc.drop off).take _
 ·rename_i ha;obtain ⟨v,hv,_,hd⟩:=hc.get h;refine ⟨v,?_,hd⟩;have HJ:vs[off]? =some v:=by simpa using hv
  have ha:lY i.desc=false:=by simpa using ha
  simp only[part,Sem.run_bind,z6 hi,Result.andThen_ok,ha,aC,aA,HJ,Sem.run_pure]
def akj {i:TI} (hz:acy (lY i.desc) z i.zero) (hl:lY i.desc=true->i.zero.length=i.size) {x:SV} (h:ia i i.zero 0=some x):VR g z x:=by
 unfold ia at h;rw[bG] at h;obtain ⟨h1,h2,h3⟩:=hz;split at h
 ·rename_i ha;obtain ⟨_,h⟩:=aV h;simp at h;subst h;obtain ⟨a,rfl⟩:=h2 ha;rw[<-hl ha,xv];exact .agg (h1 g)
 ·rename_i ha;have ho:=h3 (by simpa using ha)
  obtain ⟨v,hv,_,hd⟩:=(h1 g).get h;have:z.cells= #[z]:=by cases z<;>first|rfl|(simp[Value.oneCell'] at ho)
  rw[this] at hv;simp at hv;subst hv;exact hd
def VR.jb {x:SV} {cs:aY} (h:VR g v x) (hx:x.cells=some cs):gL g v.cells.toList cs:=by
 cases h with
 |agg h=>cases hx;exact h
 |cS h=>cases hx
 |undef v=>cases hx
 |bool b=>cases hx;exact .cons rfl (.bool b) .nil
 |int k e h=>cases hx;exact .cons rfl (.int k e h) .nil
 |str s=>cases hx;exact .cons rfl (.str s) .nil
 |ptr h=>cases hx;exact .cons rfl (.ptr h) .nil
 |qc=>cases hx;exact .cons rfl .qc .nil
 |sl a b c d=>cases hx;exact .cons rfl (.sl a b c d) .nil
 |sle=>cases hx;exact .cons rfl .sle .nil
 |dD=>cases hx;exact .cons rfl .dD .nil
 |mp h=>cases hx;exact .cons rfl (.mp h) .nil
 |mn=>cases hx;exact .cons rfl .mn .nil
 |fn a b=>cases hx;exact .cons rfl (.fn a b) .nil
 |pb=>cases hx;exact .cons rfl .pb .nil
def om {tm:Tf} (h:FR g nt tm a.tmps) {v:SV} (hv:cD tm x=some v):VR g (a.eval x) v:=by
 cases x with
 |tmp t=>exact h.tm t v hv
 |const u=>cases hv;exact wG g u
 |global _=>cases hv
 |func f=>cases hv;exact .fn .nil .nil
def yD {nt:Nat} {tm:Tf} {a:Act} (h:FR g nt tm a.tmps):∀{xs:List Operand} {vs:aY},fT tm xs=some vs->j6 g (xs.map a.eval) vs
 | [],_,hv=>by cases hv;exact .nil
 |x::xs,vs,hv=>by
  obtain ⟨v,l,h1,h2,h3⟩:=bp hv;cases h3;exact .cons (om h h1) (yD h h2)
def acs {r k:Option Bool} {b:Bool} (h:andThen r k=some b):(r=some true/\k=some b)\/(r=some false/\b=false):=by
 cases r with
 |none=>simp[andThen] at h
 |some c=>cases c<;>simp[andThen] at h<;>simp[h]
def Wk {E:Env} (hE:dV E g) {eq:TypeId->SV->SV->Option Bool} {m:Nat} (heq:∀(t:TypeId) (x y:SV) (b:Bool),eq t x y=some b->∀(u v:Value),VR g u x->VR g v y->∀w,(Op.equalIn m t u v).run E.P w= .ok b w)
  {us vs:hY} {xs ys:aY} (hx:gL g us.toList xs) (hy:gL g vs.toList ys):∀(l:List Field) (b:Bool),GO E eq xs ys (l.map λf=>FL.mk f.type f.offset (decide (f.name≠ "_")))=some b->∀w,(Op.eqFields m us vs l).run E.P w= .ok b w
 | [],b,h,w=>by cases h;simp[Op.eqFields]
 |f::l,b,h,w=>by
  simp only[iZ,GO] at h;obtain ⟨hn,h⟩:=aV h;obtain ⟨i,hi,h⟩:=aq h;obtain ⟨x,y,hpx,hpy,h⟩:=bp h;have PL:f.name≠ "_" :=by simpa using hn
  obtain ⟨v1,xd,xh⟩:=Aa (hE.ty _ _ hi) hpx hx w;obtain ⟨v2,hr2,HL⟩:=Aa (hE.ty _ _ hi) hpy hy w;rcases acs h with ⟨h1,h2⟩|⟨h1,rfl⟩
  ·have he:=heq _ _ _ _ h1 v1 v2 xh HL w;simp only[Op.eqFields,aH PL,Sem.run_bind,xd,hr2,he,Result.andThen_ok,Sem.run_ite,Sem.run_pure];simpa using Wk hE heq hx hy l b h2 w
  ·have he:=heq _ _ _ _ h1 v1 v2 xh HL w;simp only[Op.eqFields,aH PL,Sem.run_bind,xd,hr2,he,Result.andThen_ok,Sem.run_ite,Sem.run_pure];simp
def abP {E:Env} (hE:dV E g):∀(n:Nat) (t:TypeId) (x y:SV) (b:Bool),eqT E n t x y=some b->∀(u v:Value),VR g u x->VR g v y->∀(d:Nat) (w:World),(Op.equalIn (n+d) t u v).run E.P w= .ok b w
 |0,_,_,_,_,h=>by cases h
 |n+1,t,x,y,b,h=>by
  intro u v hu hv d w;have xe:n+1+d=(n+d)+1:=by omega
  rw[xe];obtain ⟨i,hi,h⟩:=aq (show az (E.ty.get t) (λi=>eqD i.desc E (eqT E n) t x y)=some b from h)
  have hT:=hE.ty t i hi;have hd:=hT.desc;generalize i.desc=D at hd h;cases D with
  |bool=>
   obtain ⟨p,q,h1,h2,h3⟩:=bp (show bU (oT x) (oT y) _=some b from h);obtain rfl:=uO h1;obtain rfl:=uO h2;cases hu;cases hv;cases h3;exact run_equalIn_bool' w _ t _ _ hd
  |int k=>
   obtain ⟨p,q,h1,h2,h3⟩:=bp (show bU (intOf x) (intOf y) _=some b from h);obtain ⟨hk,h3⟩:=aV h3;obtain rfl:=rH h1;obtain rfl:=rH h2;have hk:=ni hk;have hb:=NL hE h3;cases hu with|int _ _ e1=>cases hv with|int _ _ e2=>
   rw[hk,run_equalIn_int w _ t _ _ _ _ hd,e1,e2,<-hb];congr 1
  |string=>
   obtain ⟨p,q,h1,h2,h3⟩:=bp (show bU (strOf x) (strOf y) _=some b from h);obtain rfl:=mS h1;obtain rfl:=mS h2;cases hu;cases hv;cases h3;rw[run_equalIn_string w _ t _ _ hd,vD];congr 1;rw[ByteArray.toList_eq,ByteArray.toList_eq,ly];simp only[tP,jW];constructor
   ·intro h;cases p with|mk a=>cases q with|mk c=>simp at h;simp[h]
   ·intro h;rw[h]
  |pointer=>
   obtain ⟨e,hd⟩:=hd;have h:alk x y=some b:=h;unfold alk at h;split at h<;>first|(cases hu;cases hv;cases h;simp[Op.equalIn,run_underlying hd];done)|(simp at h)
  |slice e=>
   have h:auN x y=some b:=h;unfold auN at h;split at h<;>first|(cases hu;cases hv;cases h;simp[Op.equalIn,run_underlying hd];done)|(simp at h)
  |array _ _=>cases h
  |map _ _=>
   have h:alm x y=some b:=h;unfold alm at h;split at h<;>first|(cases hu;cases hv;cases h;simp[Op.equalIn,run_underlying hd];done)|(simp at h)
  |struct fs=>
   obtain ⟨a,hd,Ja,_⟩:=hd;obtain ⟨p,h1,h2⟩:=aq (show az (arO x y) _=some b from h);obtain ⟨xs,ys,h3,h4,h5⟩:=bp h1;cases h5;obtain rfl:=An h3;obtain rfl:=An h4;rw[bG] at h2;split at h2
   ·simp at h2
   ·rename_i hp;have hp:E.P.stoodInHeld t=false:=by simpa using hp
    cases hu with|agg hx=>cases hv with|agg hy=>
    have hf:E.P.fieldsOf t=a:=by simp[Program.fieldsOf,hd]
    rw[run_equalIn_struct w _ t _ _ (by rw[hf];exact hd) hp,hf]
    subst Ja;exact Wk hE (λt x y b h u v hu hv w=>abP hE n t x y b h u v hu hv d w) hx hy a.toList b h2 w
  |func=>
   obtain ⟨_,_,_,hd⟩:=hd;have h:auQ x y=some b:=h;unfold auQ at h;split at h<;>first|(cases hu;cases hv;cases h;simp[Op.equalIn,run_underlying hd];done)|(simp at h)
  |interface=>cases (show none=some b from h)
  |other=>exact hd.elim
end
section
variable {E:Env} {g:Gh} {w:World}
variable {P:Program} {y oy:Operand} {dst:TypeId}
def aCo (η:Nat->Int) (k:IntKind) (a b:SI):(acx k a b).ev η=k.wrap (a.ev η+b.ev η):=by
 unfold acx;split<;>rfl
def agk (η:Nat->Int) (k:IntKind) (a b:SI):(Na k a b).ev η=k.wrap (a.ev η - b.ev η):=by
 unfold Na;split<;>rfl
def avi (η:Nat->Int) (k:IntKind) (a:SI):(Xv k a).ev η=k.wrap (a.ev η):=by
 unfold Xv;split<;>rfl
def Dy {op:BinOp} {a b:Value} (h:P.eqGuardType P.depth t=false\/(∀cs,a≠ .agg cs)) (h2:a≠ .nilIface\/(isConst x||isConst y)=true) (w:World):(eqGuard op t x y a b).run P w= .ok () w:=by
 cases a<;>first
  |(cases op<;>rfl)
  |(
   rcases h2 with h2|h2
   ·exact absurd rfl h2
   ·cases b<;>first
     |(cases op<;>rfl)
     |(cases op<;>first|rfl|(cases x<;>cases y<;>first|rfl|(simp[isConst] at h2)))
   )
  |(
   rcases h with h|h
   ·cases b<;>first|(cases op<;>rfl)|exact run_eqGuard_agg w op t x y _ _ h
   ·exact absurd rfl (h _))
def pW {r:Option Bool} {z:SV} (h:la neg r=some z):∃b,r=some b/\z= .bool (if neg then !b else b):=by
 obtain ⟨b,h1,h2⟩:=aq h;cases h2;exact ⟨b,h1,by cases neg<;>rfl⟩
def O8 {r:Option Value} {z:SV} (h:Gg r=some z):∃v,r=some v/\z=ue v:=by
 obtain ⟨v,h1,h2⟩:=aq h;cases h2;exact ⟨v,h1,rfl⟩
def ara (E:Env) (eq:TypeId->SV->SV->Option Bool) (t:TypeId) (d:UD) (y:SV):eqD d E eq t .undef y=none:=by
 cases d<;>rfl
def aqZ (E:Env) (n:Nat) (t:TypeId) (y:SV):eqT E n t .undef y=none:=by
 cases n with
 |zero=>rfl
 |succ n=>
  show az (E.ty.get t) (λi=>eqD i.desc E (eqT E n) t .undef y)=none
  cases E.ty.get t with
  |none=>rfl
  |some i=>exact ara _ _ _ _ _
def aks {op:BinOp} {k k':IntKind} {a b:SI} {z:SV} (h:Xi E op t k k' a b=some z):∃m n v,a= .lit m/\b= .lit n/\nF E.P (binOp op t (.int k m) (.int k' n))=some v/\z=ue v:=by
 unfold Xi at h;split at h
 ·rename_i m n;obtain ⟨v,h1,h2⟩:=O8 h;exact ⟨m,n,v,rfl,rfl,h1,h2⟩
def aqO (x y:Int):(x==y)=decide (x=y):=by rw[ly];simp
def decLe (x y:Int):decide (x<=y)= !decide (y<x):=by rw[ly];simp
def VR.CT {b c:Bool} (h:b=c):VR g (.bool b) (.bool c):=by subst h;exact .bool b
def akE (hE:dV E g) {op:BinOp} {k k':IntKind} {a b:SI} {z:SV} (h:akF op E op t k k' a b=some z) (w:World):
  ∃r,(binOp op t (.int k (a.ev g.η)) (.int k' (b.ev g.η))).run E.P w= .ok r w/\VR g r z:=by
 have lit:Xi E op t k k' a b=some z->∃r,(binOp op t (.int k (a.ev g.η)) (.int k' (b.ev g.η))).run E.P w= .ok r w/\VR g r z:=by
  intro h;obtain ⟨m,n,v,rfl,rfl,h1,rfl⟩:=aks h;exact ⟨v,A6 h1 w,wG g v⟩
 cases op with
 |add=>
  obtain ⟨hk,h⟩:=aV (show aP (gF k k') (some (SV.int k (acx k a b))) none=some z from h);cases h;obtain rfl:=ni hk;exact ⟨_,by simp[binOp,Op.intArith]<;>rfl,.int _ _ (aCo _ _ _ _).symm⟩
 |sub=>
  obtain ⟨hk,h⟩:=aV (show aP (gF k k') (some (SV.int k (Na k a b))) none=some z from h);cases h;obtain rfl:=ni hk;exact ⟨_,by simp[binOp,Op.intArith]<;>rfl,.int _ _ (agk _ _ _ _).symm⟩
 |eql=>
  obtain ⟨hk,h⟩:=aV (show aP (gF k k') (la false (eqI E a b)) none=some z from h);obtain ⟨c,h1,rfl⟩:=pW h;obtain rfl:=ni hk;exact ⟨_,by simp[binOp,Op.intCmp]<;>rfl,VR.CT (by have:=NL hE h1;rw[aqO,this];rfl)⟩
 |neq=>
  obtain ⟨hk,h⟩:=aV (show aP (gF k k') (la true (eqI E a b)) none=some z from h);obtain ⟨c,h1,rfl⟩:=pW h;obtain rfl:=ni hk;exact ⟨_,by simp[binOp,Op.intCmp]<;>rfl,VR.CT (by have:=NL hE h1;rw[<-this,<-aqO];rfl)⟩
 |lss=>
  obtain ⟨hk,h⟩:=aV (show aP (gF k k') (la false (Cv E a b)) none=some z from h);obtain ⟨c,h1,rfl⟩:=pW h;obtain rfl:=ni hk;exact ⟨_,by simp[binOp,Op.intCmp]<;>rfl,VR.CT (by have:=xP hE h1;simpa using this)⟩
 |gtr=>
  obtain ⟨hk,h⟩:=aV (show aP (gF k k') (la false (Cv E b a)) none=some z from h);obtain ⟨c,h1,rfl⟩:=pW h;obtain rfl:=ni hk;exact ⟨_,by simp[binOp,Op.intCmp]<;>rfl,VR.CT (by have:=xP hE h1;simpa using this)⟩
 |leq=>
  obtain ⟨hk,h⟩:=aV (show aP (gF k k') (la true (Cv E b a)) none=some z from h);obtain ⟨c,h1,rfl⟩:=pW h;obtain rfl:=ni hk;exact ⟨_,by simp[binOp,Op.intCmp]<;>rfl,VR.CT (by have:=xP hE h1;rw[<-this];first|exact decLe _ _|(rw[<-decLe];rfl))⟩
 |geq=>
  obtain ⟨hk,h⟩:=aV (show aP (gF k k') (la true (Cv E a b)) none=some z from h);obtain ⟨c,h1,rfl⟩:=pW h;obtain rfl:=ni hk;exact ⟨_,by simp[binOp,Op.intCmp]<;>rfl,VR.CT (by have:=xP hE h1;rw[<-this];first|exact decLe _ _|(rw[<-decLe];rfl))⟩
 |_=>exact lit h
def aju {op:BinOp} {a b:ByteArray} {z:SV} (h:ajv op E op t a b=some z) (w:World):
  ∃r,(binOp op t (.string a) (.string b)).run E.P w= .ok r w/\VR g r z:=by
 have lit:Gg (nF E.P (binOp op t (.string a) (.string b)))=some z->∃r,(binOp op t (.string a) (.string b)).run E.P w= .ok r w/\VR g r z:=by
  intro h;obtain ⟨v,h1,rfl⟩:=O8 h;exact ⟨v,A6 h1 w,wG g v⟩
 have hb:(a.toList==b.toList)=decide (a=b):=by
  rw[ByteArray.toList_eq,ByteArray.toList_eq,ly];simp only[tP,jW];constructor
  ·intro h;cases a with|mk a=>cases b with|mk c=>simp at h;simp[h]
  ·intro h;rw[h]
 cases op with
 |eql=>cases h;exact ⟨_,by simp[binOp,Op.stringOp]<;>rfl,VR.CT (by rw[vD];simpa using hb)⟩
 |neq=>cases h;exact ⟨.bool (!(a.toList==b.toList)),by simp[binOp,Op.stringOp,bne],VR.CT (by rw[vD,hb])⟩
 |_=>exact lit h
def W6 {a b:Value} (h1:∀k n,a≠ .int k n) (h2:∀k n,a≠ .float k n) (h3:∀k n m,a≠ .complex k n m) (h4:∀s,a≠ .string s) (w:World):
  (binOp .eql t a b).run P w=((Op.equalIn 10000 t a b).run P w).andThen λr w'=>.ok (.bool r) w':=by
 cases a<;>first|exact absurd rfl (h1 _ _)|exact absurd rfl (h2 _ _)|exact absurd rfl (h3 _ _ _)|exact absurd rfl (h4 _)|(simp only[binOp];simp[Op.equal,Op.maxDepth])
def W5 {a b:Value} (h1:∀k n,a≠ .int k n) (h2:∀k n,a≠ .float k n) (h3:∀k n m,a≠ .complex k n m) (h4:∀s,a≠ .string s) (w:World):
  (binOp .neq t a b).run P w=((Op.equalIn 10000 t a b).run P w).andThen λr w'=>.ok (.bool (!r)) w':=by
 cases a<;>first|exact absurd rfl (h1 _ _)|exact absurd rfl (h2 _ _)|exact absurd rfl (h3 _ _ _)|exact absurd rfl (h4 _)|(simp only[binOp];simp[Op.equal,Op.maxDepth])
def aay (hE:dV E g) {op:BinOp} {x y z:SV} (hx:∀k e,x≠ .int k e) (hs:∀s,x≠ .str s) (h:UR op E t ox oy x y=some z) (hu:VR g u x) (hv:VR g v y) (w:World):
  ∃r,(do eqGuard op t ox oy u v;binOp op t u v:Sem Value).run E.P w= .ok r w/\VR g r z:=by
 have key:∀b,GN E t ox oy x y=some b->(eqGuard op t ox oy u v).run E.P w= .ok () w/\(∀w,(binOp .eql t u v).run E.P w= .ok (.bool b) w)/\(∀w,(binOp .neq t u v).run E.P w= .ok (.bool (!b)) w):=by
  intro b he;obtain ⟨jn,he⟩:=aV he;have ln:=λw=>abP hE 20 t x y b he u v hu hv 9980 w
  simp only[show 20+9980=10000 from rfl] at ln;have hnu:x≠ .undef:=λe=>by rw[e,aqZ] at he;simp at he
  have aES:(∀k n,u≠ .int k n)/\(∀k n,u≠ .float k n)/\(∀k n m,u≠ .complex k n m)/\(∀s,u≠ .string s)/\(E.P.eqGuardType E.P.depth t=false\/(∀cs,u≠ .agg cs))/\(u≠ .nilIface\/(isConst ox||isConst oy)=true):=by
   cases hu<;>first|exact absurd rfl (hx _ _)|exact absurd rfl (hs _)|exact absurd rfl hnu|(simp;done)|(simp[auP] at jn;simp[jn])
  obtain ⟨f1,f2,f3,f4,f5,f6⟩:=aES;refine ⟨Dy f5 f6 w,λw=> ?_,λw=> ?_⟩
  ·rw[W6 f1 f2 f3 f4,ln];rfl
  ·rw[W5 f1 f2 f3 f4,ln];rfl
 cases op with
 |eql=>
  obtain ⟨b,h1,rfl⟩:=pW (show la false (GN E t ox oy x y)=some z from h);obtain ⟨k1,k2,k3⟩:=key b h1;exact ⟨.bool b,by simp only[Sem.run_bind,k1,Result.andThen_ok,k2],.bool b⟩
 |neq=>
  obtain ⟨b,h1,rfl⟩:=pW (show la true (GN E t ox oy x y)=some z from h);obtain ⟨k1,k2,k3⟩:=key b h1;exact ⟨.bool (!b),by simp only[Sem.run_bind,k1,Result.andThen_ok,k3],.bool (!b)⟩
 |_=>cases h
def arw (hE:dV E g) {op:BinOp} {x y z:SV} (h:JE E op t ox oy x y=some z) (hu:VR g u x) (hv:VR g v y) (w:World):
  ∃r,(do eqGuard op t ox oy u v;binOp op t u v:Sem Value).run E.P w= .ok r w/\VR g r z:=by
 by_cases hx:∃k e,x= .int k e
 ·obtain ⟨k,a,rfl⟩:=hx;obtain ⟨p,h1,h2⟩:=aq (show az (intOf y) (λp=>akF op E op t k p.1 a p.2)=some z from h)
  obtain rfl:=rH h1;cases hu with|int _ _ e1=>cases hv with|int _ _ e2=>
  subst e1;subst e2;obtain ⟨r,q1,q2⟩:=akE hE h2 w;exact ⟨r,by rw[Sem.run_bind,Dy (P:=E.P) (a:=.int k (a.ev g.η)) (.inr (by simp)) (.inl (by simp))];exact q1,q2⟩
 ·by_cases hs:∃s,x= .str s
  ·obtain ⟨s,rfl⟩:=hs;obtain ⟨b,h1,h2⟩:=aq (show az (strOf y) (λb=>ajv op E op t s b)=some z from h)
   obtain rfl:=mS h1;cases hu;cases hv;obtain ⟨r,q1,q2⟩:=aju (g:=g) h2 w;exact ⟨r,by rw[Sem.run_bind,Dy (P:=E.P) (a:=.string s) (.inr (by simp)) (.inl (by simp))];exact q1,q2⟩
  ·have qW:∀k e,x≠ .int k e:=λk e q=>hx ⟨k,e,q⟩
   have hs':∀s,x≠ .str s:=λs q=>hs ⟨s,q⟩
   refine aay hE qW hs' ?_ hu hv w;cases x<;>first|exact absurd rfl (qW _ _)|exact absurd rfl (hs' _)|exact h
def aCP {i:TI} (h:BO P t i):∃d,P.underlying t=some d:=by
 have hd:=h.desc;generalize i.desc=d at hd;cases d<;>simp only[JW] at hd<;>first|exact ⟨_,hd⟩|exact ⟨_,hd.choose_spec⟩|exact ⟨_,hd.choose_spec.1⟩|exact ⟨_,hd.choose_spec.choose_spec.choose_spec⟩
def alA (hE:dV E g) {x z:SV} (h:LJ E src dst x=some z) (hu:VR g u x) (w:World):∃r,(convert src dst u).run E.P w= .ok r w/\VR g r z:=by
 obtain ⟨i,j,hi,hj,h⟩:=bp h;obtain ⟨d1,xh⟩:=aCP (hE.ty _ _ hi);have hd:=(hE.ty _ _ hj).desc;generalize j.desc=D at hd h;cases D with
 |int k=>
  obtain ⟨p,h1,h2⟩:=aq (show az (intOf x) (λp=>some (SV.int k (Xv k p.2)))=some z from h)
  cases h2;obtain rfl:=rH h1;cases hu with|int _ _ e1=>
  subst e1;exact ⟨_,by simp[convert,run_underlying xh,run_underlying hd,Conv.intToInt]<;>rfl,.int _ _ (avi _ _ _).symm⟩
 |string=>
  have h:ajw x=some z:=h;unfold ajw at h;split at h
  ·cases h;cases hu;exact ⟨_,by simp[convert,run_underlying xh,run_underlying hd]<;>rfl,.str _⟩
  ·unfold aws at h;split at h
   ·cases h;cases hu with|int _ _ e1=>
    subst e1;exact ⟨_,by simp[convert,run_underlying xh,run_underlying hd,Conv.intToString]<;>rfl,.str _⟩
  ·cases h
 |_=>cases h
def asA {op:UnOp} {x z:SV} (h:unA op x=some z) (hu:VR g u x) (w:World):∃r,(Op.unary op u).run P w= .ok r w/\VR g r z:=by
 cases hu with
 |bool b=>
  obtain ⟨h1,h2⟩:=aV (show aP (PD op) (some (SV.bool (!b))) none=some z from h);cases h2;cases op<;>first|(simp[PD] at h1;done)|exact ⟨_,rfl,.bool _⟩
 |int k e he=>
  obtain ⟨h1,h2⟩:=aV (show aP (isNeg op) (some (SV.int k (Na k (.lit 0) e))) none=some z from h);cases h2;subst he;cases op<;>first|(simp[isNeg] at h1;done)|exact ⟨.int k (k.wrap (0-e.ev g.η)),by simp[Op.unary,Op.intArith],.int _ _ (by rw[agk];simp only[SI.ev])⟩
 |_=>cases h
end
section
variable {E:Env} {g:Gh} {f:Hf} {w:World}
variable {P:Program}
def jk (f:Hf) (u:Up):Hf:=λj=>if j=u.1 then u.2 else f j
def gx (f:Hf):dN->Hf
 | []=>f
 |u::us=>gx (jk f u) us
def aCO (h:Hs) (u:Up):(h.up u).hp.get=jk h.hp.get u:=funext λj=>Tr.pB _ _ _ _
def Ku:∀(us:dN) (h:Hs),(h.lQ us).hp.get=gx h.hp.get us
 | [],_=>rfl
 |u::us,h=>by
  show ((h.up u).lQ us).hp.get=_;rw[Ku us,aCO];rfl
def H7:∀(us:dN) (h:Hs),(h.lQ us).nx=h.nx
 | [],_=>rfl
 |u::us,h=>by
  show ((h.up u).lQ us).nx=_;rw[H7 us];rfl
def Gh.bind (g:Gh) (id:Nat) (p:Nat×Nat) (l:Nat) (e:TypeId):Gh:=⟨g.η,g.sz,λj=>if j=id then some p else g.Z j,λj=>if j=id then l else g.lim j,λj=>if j=id then e else g.et j,g.wb⟩
def Gh.Er {id:Nat} {p:Nat×Nat} (h:g.Z id=none):g.le (g.bind id p l e):=by
 have key:∀j q,g.Z j=some q->j≠id:=λj q hq e=>by subst e;rw[h] at hq;simp at hq
 refine ⟨rfl,rfl,λj q hq=> ?_,λj q hq=> ?_,λj q hq=> ?_,rfl⟩
 ·show (if j=id then some p else g.Z j)=some q
  rw[aM (key j q hq)];exact hq
 ·exact aM (key j q hq)
 ·exact aM (key j q hq)
def Gh.jc (g:Gh) (id:Nat) (p:Nat×Nat) (l:Nat) (e:TypeId):(g.bind id p l e).Z id=some p:=by simp[Gh.bind]
def Gh.yc (g:Gh) (id:Nat) (p:Nat×Nat) (l:Nat) (e:TypeId):(g.bind id p l e).lim id=l:=by simp[Gh.bind]
def Gh.AL (g:Gh) (id:Nat) (p:Nat×Nat) (l:Nat) (e:TypeId):(g.bind id p l e).et id=e:=by simp[Gh.bind]
def Gh.lG (g:Gh) {id j:Nat} (p:Nat×Nat) (l:Nat) (e:TypeId) (h:j≠id):(g.bind id p l e).Z j=g.Z j:=by simp[Gh.bind,h]
def HR.Ei (h:HR g f w) {id:Nat} (hn:g.Z id=none):f id=none:=by
 cases hf:f id with
 |none=>rfl
 |some o=>
  obtain ⟨b,c,h1,_⟩:=h.ob id o hf;rw[hn] at h1;simp at h1
def HR.sub (h:HR g f w) {f':Hf} (hs:∀id o,f' id=some o->f id=some o):HR g f' w:=
 ⟨λid o ho=>h.ob id o (hs id o ho),λi j x y b c d hx hy h1 h2=>h.inj i j x y b c d (hs i x hx) (hs j y hy) h1 h2⟩
def HR.write (h:HR g f w) {id:Nat} {o o':SO} (hf:f id=some o) (hρ:g.Z id=some (b,c)) (mD:w'.heap.size=w.heap.size) (GB:∀k,k≠b->w'.heap[k]? =w.heap[k]?) (uK:OR g w' id b c o') (h1:w'.os=w.os) (h2:w'.tape=w.tape) (h3:w'.output=w.output):
  HR g (jk f (id,some o')) w'/\Fr g f w g (jk f (id,some o')) w':=by
 have hb:b<w.heap.size:=by
  obtain ⟨b',c',q1,q2,_⟩:=h.ob id o hf;rw[hρ] at q1;obtain ⟨rfl,rfl⟩:b=b'/\c=c':=by simpa using q1
  exact q2
 refine ⟨⟨λj x hx=> ?_,λi j x y b1 c1 d1 hx hy e1 e2=> ?_⟩,⟨h1,h2,h3,by omega,.refl _,λk hk hn=>GB k (λe=>hn ⟨id,o,c,hf,by rw[e];exact hρ⟩),λk hk hm=> ?_⟩⟩
 ·simp only[jk] at hx;split at hx
  ·rename_i e;subst e;cases hx;exact ⟨b,c,hρ,by omega,uK⟩
  ·rename_i e;obtain ⟨b1,c1,q1,q2,q3⟩:=h.ob j x hx;refine ⟨b1,c1,q1,by omega,q3.mono (.refl _) q1 (GB b1 (λe'=> ?_))⟩
   subst e';exact e (h.inj j id x o b1 c1 c hx hf q1 hρ)
 ·have key:∀k z,jk f (id,some o') k=some z->∃z',f k=some z':=by
   intro k z hz;simp only[jk] at hz;split at hz
   ·rename_i e;subst e;exact ⟨o,hf⟩
   ·exact ⟨z,hz⟩
  obtain ⟨x',qW⟩:=key i x hx;obtain ⟨y',hy'⟩:=key j y hy;exact h.inj i j x' y' b1 c1 d1 qW hy' e1 e2
 ·obtain ⟨j,x,d,hx,hd⟩:=hm;simp only[jk] at hx;split at hx
  ·rename_i e;subst e;exact ⟨_,o,d,hf,hd⟩
  ·exact ⟨j,x,d,hx,hd⟩
def HR.alloc (h:HR g f w) (hn:g.Z new=none) {o':SO} (hw:w'=w.alloc ob) (uK:OR (g.bind new (w.heap.size,0) l e) w' new w.heap.size 0 o'):
  HR (g.bind new (w.heap.size,0) l e) (jk f (new,some o')) w'/\Fr g f w (g.bind new (w.heap.size,0) l e) (jk f (new,some o')) w':=by
 subst hw;have sY:=h.Ei hn;have hle:=Gh.Er (p:=(w.heap.size,0)) (l:=l) (e:=e) hn;have mD:(w.alloc ob).heap.size=w.heap.size+1:=by simp
 refine ⟨⟨λj x hx=> ?_,λi j x y b1 c1 d1 hx hy e1 e2=> ?_⟩,⟨rfl,rfl,rfl,by omega,hle,λk hk _=>heap_alloc_old w ob hk,λk hk hm=> ?_⟩⟩
 ·simp only[jk] at hx;split at hx
  ·rename_i e;subst e;cases hx;exact ⟨w.heap.size,0,Gh.jc _ _ _ _ _,by omega,uK⟩
  ·rename_i e;obtain ⟨b1,c1,q1,q2,q3⟩:=h.ob j x hx;exact ⟨b1,c1,(Gh.lG g _ _ _ e).trans q1,by omega,q3.mono hle q1 (heap_alloc_old w ob q2)⟩
 ·simp only[jk] at hx hy;split at hx
  ·rename_i ei;subst ei;split at hy
   ·rename_i ej;exact ej.symm
   ·rename_i ej;rw[Gh.jc] at e1;rw[Gh.lG g _ _ _ ej] at e2;obtain ⟨b2,c2,q1,q2,_⟩:=h.ob j y hy;rw[e2] at q1;simp at e1 q1;omega
  ·rename_i ei;rw[Gh.lG g _ _ _ ei] at e1;split at hy
   ·rename_i ej;subst ej;rw[Gh.jc] at e2;obtain ⟨b2,c2,q1,q2,_⟩:=h.ob i x hx;rw[e1] at q1;simp at e2 q1;omega
   ·rename_i ej;rw[Gh.lG g _ _ _ ej] at e2;exact h.inj i j x y b1 c1 d1 hx hy e1 e2
 ·obtain ⟨j,x,d,hx,hd⟩:=hm;simp only[jk] at hx;split at hx
  ·rename_i e;subst e;rw[Gh.jc] at hd;simp at hd;omega
  ·rename_i e;rw[Gh.lG g _ _ _ e] at hd;exact ⟨j,x,d,hx,hd⟩
def HR.kill (h:HR g f w) (id:Nat):HR g (jk f (id,none)) w/\Fr g f w g (jk f (id,none)) w:=by
 have key:∀k z,jk f (id,none) k=some z->f k=some z:=by
  intro k z hz;simp only[jk] at hz;split at hz
  ·simp at hz
  ·exact hz
 refine ⟨h.sub key,⟨rfl,rfl,rfl,dg _,.refl _,λ_ _ _=>rfl,λk hk hm=> ?_⟩⟩
 obtain ⟨j,x,d,hx,hd⟩:=hm;exact ⟨j,x,d,key j x hx,hd⟩
def HR.rename (h:HR g f w) {id c':Nat} {o o':SO} (hn:g.Z new=none) (hf:f id=some o) (hρ:g.Z id=some (b,c)) (mD:w'.heap.size=w.heap.size) (GB:∀k,k≠b->w'.heap[k]? =w.heap[k]?) (uK:OR (g.bind new (b,c') l e) w' new b c' o') (h1:w'.os=w.os) (h2:w'.tape=w.tape) (h3:w'.output=w.output):
  HR (g.bind new (b,c') l e) (jk (jk f (id,none)) (new,some o')) w'/\Fr g f w (g.bind new (b,c') l e) (jk (jk f (id,none)) (new,some o')) w':=by
 have hle:=Gh.Er (p:=(b,c')) (l:=l) (e:=e) hn;have sY:=h.Ei hn;have hb:b<w.heap.size:=by
  obtain ⟨b',c',q1,q2,_⟩:=h.ob id o hf;rw[hρ] at q1;obtain ⟨rfl,rfl⟩:b=b'/\c=c':=by simpa using q1
  exact q2
 have key:∀j x,jk (jk f (id,none)) (new,some o') j=some x->(j=new/\x=o')\/(j≠new/\j≠id/\f j=some x):=by
  intro j x hx;simp only[jk] at hx;split at hx
  ·rename_i e;cases hx;exact .inl ⟨e,rfl⟩
  ·rename_i e;split at hx
   ·simp at hx
   ·rename_i e';exact .inr ⟨e,e',hx⟩
 have uq:∀j x d,j≠id->f j=some x->g.Z j=some (b,d)->False:=λj x d hj hx hd=>hj (h.inj j id x o b d c hx hf hd hρ)
 refine ⟨⟨λj x hx=> ?_,λi j x y b1 c1 d1 hx hy e1 e2=> ?_⟩,⟨h1,h2,h3,by omega,hle,λk hk hn=>GB k (λe=>hn ⟨id,o,c,hf,by rw[e];exact hρ⟩),λk hk hm=> ?_⟩⟩
 ·rcases key j x hx with ⟨rfl,rfl⟩|⟨q1,q2,q3⟩
  ·exact ⟨b,c',Gh.jc _ _ _ _ _,by omega,uK⟩
  ·obtain ⟨b1,c1,r1,r2,r3⟩:=h.ob j x q3;exact ⟨b1,c1,(Gh.lG g _ _ _ q1).trans r1,by omega,r3.mono hle r1 (GB b1 (λe=>by subst e;exact uq j x c1 q2 q3 r1))⟩
 ·rcases key i x hx with ⟨rfl,rfl⟩|⟨q1,q2,q3⟩<;>rcases key j y hy with ⟨rfl,rfl⟩|⟨r1,r2,r3⟩
  ·rfl
  ·rw[Gh.jc] at e1;rw[Gh.lG g _ _ _ r1] at e2;obtain ⟨rfl,_⟩:b=b1/\c'=c1:=by simpa using e1
   exact (uq j y d1 r2 r3 e2).elim
  ·rw[Gh.jc] at e2;rw[Gh.lG g _ _ _ q1] at e1;obtain ⟨rfl,_⟩:b=b1/\c'=d1:=by simpa using e2
   exact (uq i x c1 q2 q3 e1).elim
  ·rw[Gh.lG g _ _ _ q1] at e1;rw[Gh.lG g _ _ _ r1] at e2;exact h.inj i j x y b1 c1 d1 q3 r3 e1 e2
 ·obtain ⟨j,x,d,hx,hd⟩:=hm;rcases key j x hx with ⟨rfl,rfl⟩|⟨q1,q2,q3⟩
  ·rw[Gh.jc] at hd;obtain ⟨rfl,_⟩:b=k/\c'=d:=by simpa using hd
   exact ⟨id,o,c,hf,hρ⟩
  ·rw[Gh.lG g _ _ _ q1] at hd;exact ⟨j,x,d,q3,hd⟩
def tE {cur:hY} (h:w.heap[b]? =some (.cells cur e fz)):w.cell? ⟨b,o,none⟩=cur[o]? :=by simp[World.cell?,h]
def add_lit (b o j:Nat):(⟨b,o,none⟩:Addr).add j=⟨b,o+j,none⟩:=by unfold Addr.add;split<;>simp_all
def Cells.fT {id:Nat} {cs:aY} (h:Cells g w id b o e cs) (off n:Nat) (hl:off+n<=cs.length):
  ∃vs:fq,vs.length=n/\gL g vs ((cs.drop off).take n)/\∀j v,vs[j]? =some v->w.cell? ⟨b,o+off+j,none⟩=some v:=by
 obtain ⟨⟨cur,h1,h0,vs,h2,h3⟩,h4⟩:=h;refine ⟨(vs.drop off).take n,?_,(h2.drop off).take n,λj v hv=> ?_⟩
 ·have:=h2.length;simp;omega
 ·rw[tE h1];rw[fa] at hv;split at hv
  ·rw[fc] at hv;rw[fU];exact h3 _ _ hv
  ·simp at hv
def GV:∀{cs:aY},uN cs=true->∀{j:Nat} {x:SV},cs[j]? =some x->HI x=false
 | [],_,j,x,h=>by simp at h
 |y::cs,hd,j,x,h=>by
  have hd:aP (HI y) false (uN cs)=true:=hd;rw[bG] at hd;split at hd
  ·cases hd
  ·rename_i hu;cases j with
   |zero=>
    have e:y=x:=by simpa using h
    rw[<-e];simpa using hu
   |succ j=>exact GV hd (by simpa using h)
def OR.fT {id:Nat} {x:SO} {p:TypeId×aY} (h:OR g w id b o x) (hx:jb (some x) off n=some p) (hl:off+n<=p.2.length):
  ∃vs:fq,vs.length=n/\gL g vs ((p.2.drop off).take n)/\∀j v,vs[j]? =some v->w.cell? ⟨b,o+off+j,none⟩=some v:=by
 cases x with
 |cells e cs=>cases hx;exact Cells.fT h off n hl
 |ro cs=>
  obtain ⟨hd,hx⟩:=aV (show aP (uN ((cs.drop off).take n)) (some (0,cs)) none=some p from hx);cases hx;obtain ⟨cur,e,fz,h1,_,h2⟩:=h;have mD:n=0\/o+off+n<=cur.size:=by
   by_cases hn:n=0
   ·exact .inl hn
   ·right;have hl:off+n<=cs.length:=hl;have cV:off+n-1<cs.length:=by omega
    obtain ⟨v,a,_⟩:=h2 (off+n-1) cs[off+n-1] (by simp[cV])
    have:=(na.1 a).1;omega
  have hlen:((cur.toList.drop (o+off)).take n).length=n:=by
   rcases mD with h|h
   ·subst h;simp
   ·simp;omega
  have mM:∀j v,((cur.toList.drop (o+off)).take n)[j]? =some v->j<n/\cur[o+off+j]? =some v:=λj v hv=>by
   rw[fa] at hv;split at hv
   ·rw[fc] at hv;exact ⟨by assumption,by simpa using hv⟩
   ·cases hv
  refine ⟨(cur.toList.drop (o+off)).take n,hlen,gL.mk (by rw[hlen,dZ,iE];have hl:off+n<=cs.length:=hl;show n=min n (cs.length-off);omega) (λj v y hv hy=> ?_),λj v hv=> ?_⟩
  ·have hu:=GV hd hy;obtain ⟨hj,hv⟩:=mM j v hv;have hy:((cs.drop off).take n)[j]? =some y:=hy;rw[fa,aH hj,fc] at hy;obtain ⟨v',a,b⟩:=h2 (off+j) y hy;have e:v'=v:=by
    rw[show o+(off+j)=o+off+j by omega,hv] at a
    simpa using a.symm
   rw[<-e];exact b hu
  ·obtain ⟨_,hv⟩:=mM j v hv;rw[tE h1];exact hv
 |_=>cases hx
def zW {cs xs:List J} (h:off+xs.length<=cs.length) (j:Nat):
  (cs.take off++xs++cs.drop (off+xs.length))[j]? =if off<=j/\j<off+xs.length then xs[j-off]? else cs[j]? :=by
 by_cases h1:j<off
 ·rw[aM (by omega),lu,pD (by simp;omega),fa]
  simp[h1]
 ·by_cases h2:j<off+xs.length
  ·rw[aH ⟨by omega,h2⟩,pD (by simp;omega),nP (by simp;omega)]
   congr 1;simp[fE (by omega:off<=cs.length)]
  ·rw[nP (by simp;omega),fc,aM (by omega)]
   congr 1;simp[fE (by omega:off<=cs.length)]
   omega
def Ij (cs:aY) (off:Nat) (xs:aY):eI cs off xs=cs.take off++xs++cs.drop (off+xs.length):=rfl
def Cells.store {id:Nat} {cs:aY} (h:Cells g w id b o e cs) {us:fq} {xs:aY} (hx:gL g us xs) (hl:off+xs.length<=cs.length):
  ∃w',(storeCells ⟨b,o+off,none⟩ us 0).run P w= .ok () w'/\Cells g w' id b o e (eI cs off xs)/\w'.heap.size=w.heap.size/\(∀k,k≠b->w'.heap[k]? =w.heap[k]?)/\w'.os=w.os/\w'.tape=w.tape/\w'.output=w.output:=by
 have hul:=hx.length;by_cases hu0:us= []
 ·subst hu0;have hx0:xs= []:=sq (by simpa using hul.symm)
  subst hx0;refine ⟨w,rfl,?_,rfl,λ_ _=>rfl,rfl,rfl,rfl⟩
  have:eI cs off []=cs:=by rw[Ij];simp
  rw[this];exact h
 obtain ⟨⟨cur,h1,h0,vs,h2,h3⟩,h4⟩:=h;have hvl:=h2.length;have U8:0<us.length:=by cases us with|nil=>exact absurd rfl hu0|cons _ _=>simp
 have mD:o+off+us.length<=cur.size:=by
  have cV:off+us.length-1<vs.length:=by omega
  have:=h3 (off+us.length-1) vs[off+us.length-1] (by simp[cV])
  have:=(na.1 this).1;omega
 have ln:=run_storeCells_at P b (o+off) e us 0 cur w h1 (by omega) hx.one
 simp only[mZ] at ln;refine ⟨_,ln,⟨⟨_,setRow_heap w b cur _ e _ h1,?_,vs.take off++us++vs.drop (off+us.length),?_,?_⟩,h4⟩,by simp,λk hk=>setRow_other w b k _ hk,rfl,rfl,rfl⟩
 ·simp;omega
 ·rw[Ij,<-hul];exact ((h2.take off).append hx).append (h2.drop _)
 ·intro j v hv;rw[zW (by omega)] at hv
  have hg:(cur.toList.take (o+off)++us++cur.toList.drop (o+off+us.length)).toArray[o+j]? =if o+off<=o+j/\o+j<o+off+us.length then us[o+j-(o+off)]? else cur[o+j]? :=by
   rw[HW,zW (by simp;omega)]
   simp
  rw[hg];split at hv
  ·rename_i hc;rw[aH (by omega)]
   have:o+j-(o+off)=j-off:=by omega
   rw[this];exact hv
  ·rename_i hc;rw[aM (by omega)]
   exact h3 j v hv
end
section
variable {E:Env} {g:Gh} {f:Hf} {w:World}
variable {P:Program} {kc:IntKind}
structure gV (g:Gh) (f:Hf) (w:World) (v:SV) (us:dN) (new:Nat) (r:Value) (g':Gh) (w':World):Prop where
 val:VR g' r v
 hr:HR g' (gx f us) w'
 fr:Fr g f w g' (gx f us) w'
 ro:∀id,id≠new->g'.Z id=g.Z id
 nil:us= []->g'=g
def gV.same (h:HR g f w) {v:SV} (hv:VR g r v):gV g f w v [] new r g w:=⟨hv,h,Fr.refl _ _ _,λ_ _=>rfl,λ_=>rfl⟩
def HR.at (h:HR g f w) {id:Nat} {o:SO} (hf:f id=some o) (hρ:g.Z id=some (b,c)):b<w.heap.size/\OR g w id b c o:=by
 obtain ⟨b',c',q1,q2,q3⟩:=h.ob id o hf;rw[hρ] at q1;obtain ⟨rfl,rfl⟩:b=b'/\c=c':=by simpa using q1
 exact ⟨q2,q3⟩
def afP {i:TI} (hT:BO P t i) (ha:lY i.desc=true) {vs:fq} (hl:vs.length=i.size) (ad:Addr) (h:∀j v,vs[j]? =some v->w.cell? (ad.add j)=some v):(loadVar t ad).run P w= .ok (.agg vs.toArray) w:=by
 have:=run_loadCells_list (P:=P) w ad vs h;rw[hl] at this;simp only[loadVar,Sem.run_bind,z6 hT,ha,Result.andThen_ok,aB,oD hT,this,Sem.run_pure]
def afO {i:TI} (hT:BO P t i) (ha:lY i.desc=false) (ad:Addr) (h:w.cell? ad=some v):(loadVar t ad).run P w= .ok v w:=by
 simp only[loadVar,Sem.run_bind,z6 hT,ha,Result.andThen_ok,aC,aA,run_load,h]
def Pw (hE:dV E g) (h:HR g f w) {x z:SV} (hu:VR g u x) (ur:oW E f t x=some z):∃r,(Instr.loadAt t u).run E.P w= .ok r w/\VR g r z:=by
 obtain ⟨q,h1,hl⟩:=aq ur;obtain ⟨i,hi,hl⟩:=aq hl;obtain ⟨p,hp,hl⟩:=aq hl;obtain rfl:=od h1;have hT:=hE.ty t i hi;have hx:∃x,f q.1=some x/\jb (some x) q.2 (wide i)=some p:=by
  cases hf:f q.1 with
  |none=>rw[hf] at hp;cases hp
  |some x=>exact ⟨x,rfl,by rw[<-hf];exact hp⟩
 obtain ⟨x,hf,hx⟩:=hx;cases hu with
 | @ptr _ _ b o hρ=>
  have hc:OR g w q.1 b o x:=(h.at hf hρ).2;unfold ia at hl;rw[bG] at hl;split at hl
  ·rename_i ha;obtain ⟨hle,hl⟩:=aV hl;have hle:=(bV _ _).1 hle;cases hl;have hw:wide i=i.size:=by unfold wide;rw[ha]
   rw[hw] at hx;obtain ⟨vs,v1,v2,v3⟩:=hc.fT hx hle;refine ⟨.agg vs.toArray,?_,.agg (by simpa using v2)⟩
   simp only[Instr.loadAt,Instr.sureAddr,Sem.run_bind,Sem.run_pure,Result.andThen_ok];exact afP hT ha v1 _ (λj v hj=>by rw[add_lit];exact v3 j v hj)
  ·rename_i ha;have cV:q.2<p.2.length:=(cf.1 hl).1;have hw:wide i=1:=by unfold wide;rw[show lY i.desc=false by simpa using ha]
   rw[hw] at hx;obtain ⟨vs,v1,v2,v3⟩:=hc.fT hx (by omega)
   have hz:((p.2.drop q.2).take 1)[0]? =some z:=by rw[fa,aH (by omega),fc,mZ];exact hl
   obtain ⟨v,hv,_,hd⟩:=v2.get hz;refine ⟨v,?_,hd⟩;simp only[Instr.loadAt,Instr.sureAddr,Sem.run_bind,Sem.run_pure,Result.andThen_ok];exact afO hT (by simpa using ha) _ (by have:=v3 0 v hv;rwa[mZ] at this)
def afu (hE:dV E g) (h:HR g f w) {x y:SV} (hu:VR g u x) (hv:VR g v y) {us:dN} (ur:rX E f t y x=some us):
  ∃w',(Instr.storeAt t u v).run E.P w= .ok () w'/\HR g (gx f us) w'/\Fr g f w g (gx f us) w':=by
 obtain ⟨q,h1,hl⟩:=aq ur;obtain ⟨i,xs,p,hi,hxs,hp,hl⟩:=pY hl;obtain rfl:=od h1;obtain ⟨hc,hl⟩:=aV hl;cases hl;rw[bF] at hc;have hlen:=(beq_iff _ _).1 hc.1;have hle:=(bV _ _).1 hc.2;have hf:=kU hp;have hT:=hE.ty t i hi;have hcr:=hv.jb hxs;cases hu with
 | @ptr _ _ b o hρ=>
  have xj:Cells g w q.1 b o p.1 p.2:=(h.at hf hρ).2;obtain ⟨w',q1,q2,q3,q4,q5,q6,q7⟩:=xj.store (P:=E.P) hcr hle;obtain ⟨r1,r2⟩:=h.write (o':=.cells p.1 (eI p.2 q.2 xs)) hf hρ q3 q4 q2 q5 q6 q7;refine ⟨w',?_,r1,r2⟩;have mD:v.cells.size=i.size:=by rw[<-hlen,<-hcr.length];simp
  simp only[Instr.storeAt,Instr.sureAddr,storeVar,Sem.run_bind,Sem.run_pure,Result.andThen_ok,oD hT,mD,ne_eq,not_true,aA,Sem.run_ite];exact q1
def gL.eI {vs us:fq} {cs xs:aY} (h:gL g vs cs) (k:gL g us xs):gL g (vs.take off++us++vs.drop (off+us.length)) (bZ.eI cs off xs):=by
 rw[Ij,k.length];exact ((h.take off).append k).append (h.drop _)
def Ak (place:Nat->Option (Nat×Nat)):∀(parts:List (Nat×Value)) (gZ:List (Nat×aY)) (vs:hY) (cs rs:aY),gL g vs.toList cs->
  parts.length=gZ.length->(∀(j:Nat) (i:Nat) (v:Value) (i':Nat) (xs:aY),parts[j]? =some (i,v)->gZ[j]? =some (i',xs)->i=i'/\gL g v.cells.toList xs)->mW place cs gZ=some rs->
  ∃us,Instr.fill place vs parts=some us/\gL g us.toList rs
 | [],[],vs,cs,rs,hc,_,_,h=>by cases h;exact ⟨vs,rfl,hc⟩
 |(i,v)::parts,(i',xs)::gZ,vs,cs,rs,hc,hl,hp,h=>by
  obtain ⟨rfl,hx⟩:=hp 0 i v i' xs rfl rfl;obtain ⟨q,I3,h⟩:=aq (show az (place i) (λq=>aP (Nat.beq xs.length q.2&&Nat.ble (Nat.add q.1 q.2) cs.length) (mW place (bZ.eI cs q.1 xs) gZ) none)=some rs from h)
  obtain ⟨akW,h⟩:=aV h;rw[bF] at akW;have h1:=(beq_iff _ _).1 akW.1;have h2:q.1+q.2<=cs.length:=(bV _ _).1 akW.2;obtain ⟨off,size⟩:=q;simp only at h1 h2 I3 h;have hvl:v.cells.size=size:=by rw[<-h1,<-hx.length];simp
  have eA:vs.size=cs.length:=by rw[<-hc.length];simp
  have aJG:(v.cells.zipIdx.foldl (λcs (c,j)=>cs.setIfInBounds (off+j) c) vs).toList=vs.toList.take off++v.cells.toList++vs.toList.drop (off+v.cells.toList.length):=by
   rw[<-Array.foldl_toList,Array.toList_zipIdx];obtain ⟨f1,f2⟩:=Great.foldl_set off v.cells.toList 0 vs;apply DQ;intro j;rw[zW (by simp;omega)]
   have:=f2 j;simp only[mZ] at this;rw[lx];refine this.trans ?_;simp only[Kr,lx];by_cases hj:off<=j/\j<off+v.cells.size
   ·rw[aH hj,aH ⟨hj.1,hj.2,by omega⟩]
   ·rw[aM hj,aM (by omega)]
  have s8:=hc.eI hx (off:=off);rw[<-aJG] at s8;obtain ⟨us,hu1,hu2⟩:=Ak place parts gZ _ _ rs s8 (by simpa using hl) (λj i v i' xs ha hb=>hp (j+1) i v i' xs (by simpa using ha) (by simpa using hb)) h
  refine ⟨us,?_,hu2⟩;unfold Instr.fill;simp only[I3];rw[aM (by simp[hvl];omega)]
  exact hu1
 | [],_::_,_,_,_,_,hl,_,_=>by simp at hl
 |_::_,[],_,_,_,_,hl,_,_=>by simp at hl
def Dk {nt:Nat} {tm:Tf} {a:Act} (h:FR g nt tm a.tmps):∀(parts:List (Nat×Operand)) (l:List (Nat×aY)),kr tm parts=some l->
  parts.length=l.length/\∀(j:Nat) (i:Nat) (v:Value) (i':Nat) (xs:aY),(parts.map λ(i,x)=>(i,a.eval x))[j]? =some (i,v)->l[j]? =some (i',xs)->i=i'/\gL g v.cells.toList xs
 | [],l,hp=>by cases hp;simp
 |(i,x)::parts,l,hp=>by
  obtain ⟨v,hv,hp⟩:=aq hp;obtain ⟨cs,l',hc,xg,hp⟩:=bp hp;cases hp;obtain ⟨h1,h2⟩:=Dk h parts l' xg;refine ⟨by simp[h1],λj i1 u i2 xs ha hb=> ?_⟩
  cases j with
  |zero=>
   simp at ha hb;obtain ⟨rfl,rfl⟩:=ha;obtain ⟨rfl,rfl⟩:=hb;exact ⟨rfl,(om h hv).jb hc⟩
  |succ j=>simp at ha hb;exact h2 j i1 u i2 xs (by simpa using ha) hb
def ajh {i:TI} (h:BO P t i):∃z,(∀w,(zeroValue t).run P w= .ok z w)/\(∀g,gL g z.cells.toList i.zero):=by
 obtain ⟨z,h1,h2,_⟩:=aaa h;exact ⟨z,h1,h2.1⟩
def PY {p p':Nat->Option (Nat×Nat)} (hp:∀j q,p j=some q->p' j=some q):∀(gZ:List (Nat×aY)) (cs rs:aY),mW p cs gZ=some rs->mW p' cs gZ=some rs
 | [],cs,rs,h=>h
 |(i,xs)::gZ,cs,rs,h=>by
  obtain ⟨q,h1,h⟩:=aq (show az (p i) (λq=>aP (Nat.beq xs.length q.2&&Nat.ble (Nat.add q.1 q.2) cs.length) (mW p (bZ.eI cs q.1 xs) gZ) none)=some rs from h)
  obtain ⟨hc,h⟩:=aV h;show az (p' i) (λq=>aP (Nat.beq xs.length q.2&&Nat.ble (Nat.add q.1 q.2) cs.length) (mW p' (bZ.eI cs q.1 xs) gZ) none)=some rs
  rw[hp _ _ h1];show aP (Nat.beq xs.length q.2&&Nat.ble (Nat.add q.1 q.2) cs.length) (mW p' (bZ.eI cs q.1 xs) gZ) none=some rs;rw[hc];exact PY hp gZ _ _ h
def ML (P:Program):∀(l:List Field),(∀f∈l,(P.info? f.type).isSome=true)->∃Ba,l.mapM (λf=>(P.info? f.type).map λi=>(f.offset,i.size))=some Ba/\
  ∀(j:Nat) (f:Field) (i:TypeInfo),l[j]? =some f->P.info? f.type=some i->Ba[j]? =some (f.offset,i.size)
 | [],_=>⟨[],rfl,by simp⟩
 |f::l,h=>by
  obtain ⟨Ba,h1,h2⟩:=ML P l (λx hx=>h x (by simp[hx]))
  obtain ⟨i,hi⟩:=Oe.1 (h f (by simp))
  refine ⟨(f.offset,i.size)::Ba,by simp[SC,hi,h1],λj x ix hx yU=> ?_⟩
  cases j with
  |zero=>simp at hx;subst hx;rw[hi] at yU;cases yU;rfl
  |succ j=>simp at hx;simpa using h2 j x ix hx yU
def Wq {r:Option aY} {z:SV} (h:JH r=some z):∃cs,r=some cs/\z= .agg cs:=by
 obtain ⟨cs,h1,h2⟩:=aq h;cases h2;exact ⟨cs,h1,rfl⟩
def afY (hE:dV E g) {gZ:List (Nat×aY)} {x:SV} (o6:EU E t gZ=some x) (hl:parts.size=gZ.length) (hp:∀(j:Nat) (i:Nat) (v:Value) (i':Nat) (xs:aY),parts.toList[j]? =some (i,v)->gZ[j]? =some (i',xs)->i=i'/\gL g v.cells.toList xs) (w:World):
  ∃v,(Instr.build t parts).run E.P w= .ok v w/\VR g v x:=by
 obtain ⟨i,hi,hb⟩:=aq o6;have hT:=hE.ty t i hi;obtain ⟨it,zv,q1,_,_,_,q5,q6,_⟩:=hT.info;have hz:=q6.1 g;have hd:=hT.desc;generalize i.desc=D at hd hb;cases D with
 |array n e=>
  obtain ⟨ie,hie,hb⟩:=aq (show az (E.ty.get e) (λie=>JH (mW (rY ie.size) i.zero gZ))=some x from hb)
  obtain ⟨rs,hf,rfl⟩:=Wq hb;obtain ⟨us,hu1,hu2⟩:=Ak (rY ie.size) parts.toList gZ zv.cells i.zero rs hz (by simpa using hl) hp hf
  obtain ⟨fe,_,e1,e2,_⟩:=(hE.ty e ie hie).info;refine ⟨.agg us,run_build w t parts us ?_,.agg hu2⟩;unfold Program.built;simp only[q1,(show E.P.underlying t=some (.array n e) from hd),q5,e1,e2];exact hu1
 |struct fs=>
  obtain ⟨a,hu,Ja,il⟩:=hd;obtain ⟨rs,hf,rfl⟩:=Wq (show JH (mW (Pb E fs) i.zero gZ)=some x from hb);obtain ⟨Ba,p1,p2⟩:=ML E.P a.toList il;have hf':=PY (p':=(Ba.toArray[·]?)) (λj q hq=>by
   obtain ⟨fl,h1,h2⟩:=aq hq;obtain ⟨fi,h3,h4⟩:=aq h2;cases h4;rw[<-Ja,mH] at h1;cases hj:a.toList[j]? with
   |none=>rw[hj] at h1;simp at h1
   |some fd=>
    rw[hj] at h1;simp at h1;subst h1;obtain ⟨ff,_,e1,e2,_⟩:=(hE.ty _ fi h3).info;have:=p2 j fd ff hj e1;rw[e2] at this;simpa using this) gZ _ _ hf
  obtain ⟨us,hu1,hu2⟩:=Ak (Ba.toArray[·]?) parts.toList gZ zv.cells i.zero rs hz (by simpa using hl) hp hf'
  refine ⟨.agg us,run_build w t parts us ?_,.agg hu2⟩;unfold Program.built;simp only[q1,hu,q5,p1];exact hu1
 |_=>cases hb
def V7 {J:Type} [Inhabited J] (zs:List J) (s:Nat) (hs:zs.length=s):∀n,(List.range (n*s)).map (λk=>zs.toArray[k % s]!)=(List.replicate n zs).flatten
 |0=>by simp
 |n+1=>by
  have e:(n+1)*s=s+n*s:=by rw[gA];omega
  rw[e,List.range_add,mw,DL,Sy,qB,<-V7 zs s hs n];congr 1
  ·apply DQ;intro j;rw[mH];by_cases hj:j<s
   ·rw[List.getElem?_range hj];simp[Nat.mod_eq_of_lt hj,hs,hj]
   ·rw[xt (by simp;omega),xt (by omega)];rfl
  ·refine DN λk _=> ?_
   simp
def ahk {vs:fq} {cs:aY} (h:gL g vs cs):∀n,gL g (List.replicate n vs).flatten (rep cs n)
 |0=>by simpa using .nil
 |n+1=>by rw[Sy,qB];exact h.append (ahk h n)
def Cb {i:TI} (hT:BO P t i) (h1:P.info? t=some it) (h2:it.zero=some z) (jn:pT i=true) (n:Nat):
  gL g ((Array.range (n*it.size)).map (z.cells[· % z.cells.size]!)).toList (rep i.zero n)/\it.size=i.size/\1<=i.size/\it.bytes<=65536/\z.cells.size=i.size:=by
 obtain ⟨it',z',q1,q2,q3,_,q5,q6,_⟩:=hT.info;rw[h1] at q1;cases q1;rw[h2] at q5;cases q5;unfold pT at jn;rw[bF,bF] at jn;have k1:=(bV _ _).1 jn.1;have k2:=(bV _ _).1 jn.2.1;have k3:=(beq_iff _ _).1 jn.2.2;have hzl:z.cells.size=i.size:=by rw[<-k3,<-(q6.1 g).length];simp
 refine ⟨?_,q2,k2,by omega,hzl⟩
 have:=ahk (q6.1 g) n;rw[<-V7 z.cells.toList i.size (by simpa using hzl) n] at this
 rw[Array.toList_map,Array.toList_range,q2,hzl];simpa using this
def HR.row (h:HR g f w) (hn:g.Z new=none) {arr:hY} {vs:fq} {cs:aY} (hw0:w0.heap=w.heap/\w0.os=w.os/\w0.tape=w.tape/\w0.output=w.output) (hw:w'=w0.alloc (.cells arr e)) (hc:gL g vs cs) (wA:∀(j:Nat) (v:Value),vs[j]? =some v->arr[j]? =some v) {v:SV} (hl:l<=arr.size) (hv:VR (g.bind new (w.heap.size,0) l e) r v):gV g f w v [(new,some (.cells e cs))] new r (g.bind new (w.heap.size,0) l e) w':=by
 have h0:HR g f w0:=⟨λid o ho=>by
   obtain ⟨b,c,q1,q2,q3⟩:=h.ob id o ho;exact ⟨b,c,q1,by rw[hw0.1];exact q2,q3.mono (.refl _) q1 (by rw[hw0.1])⟩,h.inj⟩
 have hs:w0.heap.size=w.heap.size:=by rw[hw0.1]
 have xj:OR (g.bind new (w0.heap.size,0) l e) w' new w0.heap.size 0 (.cells e cs):=
  ⟨⟨arr,by rw[hw];exact heap_alloc_new w0 _,by rw[Gh.yc];omega,vs,hc.mono (Gh.Er hn),λj v hv=>by rw[cC];exact wA j v hv⟩,Gh.AL _ _ _ _ _⟩
 obtain ⟨r1,r2⟩:=h0.alloc hn (o':=.cells e cs) hw xj;rw[hs] at r1 r2;exact ⟨hv,r1,⟨r2.os.trans hw0.2.1,r2.tape.trans hw0.2.2.1,r2.output.trans hw0.2.2.2,by have:=r2.size;omega,r2.le,λb hb hm=>(r2.old b (by omega) hm).trans (by rw[hw0.1]),λb hb hm=>r2.own b (by omega) hm⟩,λid cY=>Gh.lG _ _ _ _ cY,λxW=>by cases xW⟩
def MJ (hE:dV E g) (h:HR g f w) (hn:g.Z new=none) {tm:Tf} (dY:FR g nt tm a.tmps) {len:Nat} {parts:Array (Nat×Operand)} {gZ:List (Nat×aY)} (hpc:kr tm parts.toList=some gZ) {v:SV} {us:dN} (fV:tj E new t len gZ=some (v,us)):
  ∃r w' g',(Instr.buildSlice t len (parts.map λ(i,x)=>(i,a.eval x))).run E.P w= .ok r w'/\gV g f w v us new r g' w':=by
 obtain ⟨i,hi,ho⟩:=aq fV;obtain ⟨e,he,ho⟩:=aq ho;obtain ⟨ie,hie,ho⟩:=aq ho;obtain ⟨hc,ho⟩:=aV ho;obtain ⟨cs,hf,ho⟩:=aq ho;cases ho;rw[bF] at hc;have hsm:=(bV _ _).1 hc.2;have hd:=(hE.ty t i hi).desc;rw[uF he] at hd;have hT:=hE.ty e ie hie;obtain ⟨it,z,q1,q2,_,_,q5,_⟩:=hT.info;obtain ⟨z1,z2,z3,z4,z5⟩:=Cb (g:=g) hT q1 q5 hc.1 len;obtain ⟨hl,hpt⟩:=Dk dY parts.toList gZ hpc;obtain ⟨arr,f1,f2⟩:=Ak (rY ie.size) (parts.map λ(i,x)=>(i,a.eval x)).toList gZ _ _ cs z1 (by simpa using hl) (λj i v i' xs h1 h2=>hpt j i v i' xs (by simpa using h1) h2) hf
 have hv:VR (g.bind new (w.heap.size,0) 0 e) (.slice (some ⟨w.heap.size,0,none⟩) len len) (.sl new 0 len (.k len)):=.sl (id:=new) (off:=0) (o:=0) (b:=w.heap.size) (cap:=.k len) (Gh.jc _ _ _ _ _) (dg _) (λm hm=>by cases hm;rfl) (λe hm=>by cases hm)
 refine ⟨_,_,_,?_,h.row hn (w0:=w) (w':=w.alloc (.cells arr e)) ⟨rfl,rfl,rfl,rfl⟩ rfl f2 (λj v hv=>by simpa using hv) (qF _) hv⟩
 by_cases h0:len=0
 ·subst h0;have Jd:gZ= []:=by
   cases gZ with
   |nil=>rfl
   |cons p ps=>
    obtain ⟨q,r1,r2⟩:=aq (show az (rY ie.size p.1) (λq=>aP (Nat.beq p.2.length q.2&&Nat.ble (Nat.add q.1 q.2) (rep ie.zero 0).length) (mW (rY ie.size) (bZ.eI (rep ie.zero 0) q.1 p.2) ps) none)=some cs from hf)
    cases r1;obtain ⟨r3,_⟩:=aV r2;rw[bF] at r3;have:=(bV _ _).1 r3.2;simp[rep] at this;omega
  subst Jd;have hp0:parts= #[]:=by apply uC;exact sq (by simpa using hl)
  subst hp0;simp at f1;simp[Instr.fill] at f1;simp[Instr.buildSlice,run_underlying (show E.P.underlying t=some (.slice e) from hd),sizeOf,typeInfo,q1,Instr.fill,newRow];rw[<-f1];congr 2;apply uC;simp
 ·have U8:¬len*it.size=0:=by
   rw[z2];intro he;rcases Nat.mul_eq_zero.1 he with he|he<;>omega
  have hsm':¬len*it.size>2 ^ 24:=by rw[z2];have:len*ie.size<=16777216:=hsm;omega
  refine run_buildSlice w t e len _ _ it z hd q1 q5 hsm' U8 ?_;rw[z2] at f1 ⊢;exact f1
def afK (hE:dV E g) (h:HR g f w) (hn:g.Z new=none) {v:SV} {us:dN} (fV:Be E new t l c=some (v,us)):
  ∃r w' g',(Instr.makeSlice t (.int kl (.ofNat l)) (.int kc (.ofNat c))).run E.P w= .ok r w'/\gV g f w v us new r g' w':=by
 obtain ⟨i,hi,ho⟩:=aq fV;obtain ⟨e,he,ho⟩:=aq ho;obtain ⟨ie,hie,ho⟩:=aq ho;obtain ⟨hc,ho⟩:=aV ho;cases ho;rw[bF,bF] at hc;have h1:=(bV _ _).1 hc.1;have h2:=(bV _ _).1 hc.2.1;have hd:=(hE.ty t i hi).desc;rw[uF he] at hd;have hT:=hE.ty e ie hie;obtain ⟨it,z,q1,q2,_,_,q5,_⟩:=hT.info;obtain ⟨z1,z2,z3,z4,z5⟩:=Cb (g:=g) hT q1 q5 hc.2.2 c;have hb:it.bytes*c<=65536*1000000:=Nat.mul_le_mul z4 h2;have ln:=run_make w t e it z hd q1 q5 kl kc (.ofNat l) (.ofNat c) (by simp) (by simp;omega) (by
  have:((it.bytes*c:Nat):Int)<=281474976710656:=by omega
  simpa using this) (by simp;omega)
 simp only[DM,Kl] at ln;have hv:VR (g.bind new (w.heap.size,0) 0 e) (.slice (some ⟨w.heap.size,0,none⟩) l c) (.sl new 0 l (.k c)):=.sl (id:=new) (off:=0) (o:=0) (b:=w.heap.size) (cap:=.k c) (Gh.jc _ _ _ _ _) h1 (λm hm=>by cases hm;rfl) (λe hm=>by cases hm)
 exact ⟨_,_,_,ln,h.row hn (w0:=w) ⟨rfl,rfl,rfl,rfl⟩ rfl z1 (λj v hv=>by rw[lx] at hv;exact hv) (qF _) hv⟩
end
section
variable {E:Env} {g:Gh} {f:Hf} {w:World}
variable {P:Program} {y:Nat} {hi:Option Operand}
def Nl (hE:dV E g) (h:HR g f w) {s:TypeId} {x v:SV} (hu:VR g u x) {us:dN} (fV:oo E s k x=some (v,us)):
  ∃r,(Instr.fieldAt s u k).run E.P w= .ok r w/\gV g f w v us new r g w:=by
 obtain ⟨i,p,hi,hp,ho⟩:=bp fV;obtain ⟨fs,Ja,ho⟩:=aq ho;obtain ⟨fl,yV,ho⟩:=aq ho;obtain ⟨fi,hfi,ho⟩:=aq ho;obtain ⟨hc,ho⟩:=aV ho;cases ho;obtain rfl:=od hp;have hd:=(hE.ty s i hi).desc;rw[Ih Ja] at hd;obtain ⟨a,se,ha,il⟩:=hd;subst ha;rw[mH] at yV;cases hj:a.toList[k]? with
 |none=>rw[hj] at yV;simp at yV
 |some fd=>
  rw[hj] at yV;simp at yV;subst yV;have I7:a[k]? =some fd:=by simpa using hj
  have hs:=oD (hE.ty _ fi hfi) w;have h1:=(bV _ _).1 hc;have cY:¬fi.size=0:=by omega
  cases hu with
  | @ptr _ _ b o hρ=>
   refine ⟨.pointer (some ⟨b,o+(p.2+fd.offset),none⟩),?_,gV.same h (.ptr hρ)⟩;simp only[Instr.fieldAt,Sem.run_bind,run_underlying se,Result.andThen_ok,I7,Instr.sureAddr,Sem.run_pure,fieldPlace,hs,aM cY,Sem.run_ite,add_lit,fU]
def aaF (hE:dV E g) (h:HR g f w) {x v:SV} (hu:VR g u x) {us:dN} (fV:xN E t k x=some (v,us)):
  ∃r,(Instr.field t u k).run E.P w= .ok r w/\gV g f w v us new r g w:=by
 obtain ⟨i,cs,hi,hp,ho⟩:=bp fV;obtain ⟨fs,Ja,ho⟩:=aq ho;obtain ⟨fl,yV,ho⟩:=aq ho;obtain ⟨fi,hfi,ho⟩:=aq ho;obtain ⟨z,hz,ho⟩:=aq ho;cases ho;obtain rfl:=An hp;have hd:=(hE.ty t i hi).desc;rw[Ih Ja] at hd;obtain ⟨a,se,ha,il⟩:=hd;subst ha;rw[mH] at yV;cases hj:a.toList[k]? with
 |none=>rw[hj] at yV;simp at yV
 |some fd=>
  rw[hj] at yV;simp at yV;subst yV;have I7:a[k]? =some fd:=by simpa using hj
  cases hu with
  |agg hc=>
   obtain ⟨r,r1,r2⟩:=Aa (hE.ty _ fi hfi) hz hc w;refine ⟨r,?_,gV.same h r2⟩;simp only[Instr.field,Sem.run_bind,run_underlying se,Result.andThen_ok,I7,asAgg,Sem.run_pure,r1]
def aaE (hE:dV E g) (h:HR g f w) {x v:SV} (hu:VR g u x) {us:dN} (fV:vM E t k x=some (v,us)):
  ∃r,(Instr.index t u (.int kk (.ofNat k))).run E.P w= .ok r w/\gV g f w v us new r g w:=by
 obtain ⟨i,hi,ho⟩:=aq fV;have hd:=(hE.ty t i hi).desc;generalize i.desc=D at hd ho;cases D with
 |string=>
  obtain ⟨s,hs,ho⟩:=aq (show az (strOf x) (λs=>az (s.data.toList[k]?) λb=>some (SV.int .u8 (.lit (.ofNat b.toNat)),([]:dN)))=some (v,us) from ho)
  obtain ⟨b,hb,ho⟩:=aq ho;cases ho;obtain rfl:=mS hs;cases hu;refine ⟨.int .u8 b.toNat,?_,gV.same h (.int _ _ (by simp[SI.ev]))⟩
  have cV:k<s.data.toList.length:=(cf.1 hb).1;have aui:k<s.size:=by simpa using cV
  have mM:s[k]? =some b:=by
   rw[getElem?_pos s k aui];have:s.data.toList[k]=b:=(cf.1 hb).2;rw[<-this];rfl
  have h0:(0:Int)<=Int.ofNat k:=by simp
  simp only[Instr.index,asIntOf,Sem.run_bind,Sem.run_pure,Result.andThen_ok,run_underlying (show E.P.underlying t=some .string from hd),aH h0];simp only[DM,Kl,mM,Sem.run_pure]
 |array n e=>
  obtain ⟨cs,ie,Jd,hie,ho⟩:=bp (show bU (G4 x) (E.ty.get e) (λcs ie=>aP (Nat.ble (Nat.succ k) n) (same (ia ie cs (Nat.mul k ie.size))) none)=some (v,us) from ho)
  obtain ⟨hc,ho⟩:=aV ho;obtain ⟨z,hz,ho⟩:=aq ho;cases ho;obtain rfl:=An Jd;have cV:k+1<=n:=(bV _ _).1 hc;cases hu with
  |agg xj=>
   obtain ⟨r,r1,r2⟩:=Aa (hE.ty _ ie hie) hz xj w;refine ⟨r,?_,gV.same h r2⟩;have il:(0:Int)<=Int.ofNat k/\Int.ofNat k<(n:Int):=⟨by simp,by simp;omega⟩
   simp only[Instr.index,asIntOf,Sem.run_bind,Sem.run_pure,Result.andThen_ok,run_underlying (show E.P.underlying t=some (.array n e) from hd),aH il,oD (hE.ty _ ie hie)];exact r1
 |_=>cases ho
def PI (hE:dV E g) {x z:SV} (hu:VR g u x) (fV:og E t x k=some z):
  ∃r,(Instr.indexAt t u (.int kk (.ofNat k))).run E.P w= .ok r w/\VR g r z:=by
 obtain ⟨i,hi,ho⟩:=aq fV;have hd:=(hE.ty t i hi).desc;generalize i.desc=D at hd ho;cases D with
 |slice e=>
  obtain ⟨q,hq,ho⟩:=aq (show az (asS x) (λq=>AI E e q.1 q.2.1 q.2.2.1 k)=some z from ho)
  obtain ⟨hc,ho⟩:=aV ho;obtain ⟨ie,hie,ho⟩:=aq ho;cases ho;obtain rfl:=aoK hq;have cV:k+1<=q.2.2.1:=(bV _ _).1 hc;cases hu with
  | @sl _ _ _ b o c _ hρ hn jh vr=>
   refine ⟨.pointer (some ⟨b,o+(q.2.1+k*ie.size),none⟩),?_,.ptr hρ⟩;have il:(0:Int)<=Int.ofNat k/\Int.ofNat k<(q.2.2.1:Int):=⟨by simp,by simp;omega⟩
   simp only[Instr.indexAt,asIntOf,Sem.run_bind,Sem.run_pure,Result.andThen_ok,run_underlying (show E.P.underlying t=some (.slice e) from hd),aH il,oD (hE.ty _ ie hie),Sem.run_ite,add_lit];simp[fU]
 |array n e=>
  obtain ⟨q,hq,ho⟩:=aq (show az (uX x) (λq=>AI E e q.1 q.2 n k)=some z from ho)
  obtain ⟨hc,ho⟩:=aV ho;obtain ⟨ie,hie,ho⟩:=aq ho;cases ho;obtain rfl:=od hq;have cV:k+1<=n:=(bV _ _).1 hc;cases hu with
  | @ptr _ _ b o hρ=>
   refine ⟨.pointer (some ⟨b,o+(q.2+k*ie.size),none⟩),?_,.ptr hρ⟩;have il:(0:Int)<=Int.ofNat k/\Int.ofNat k<(n:Int):=⟨by simp,by simp;omega⟩
   simp only[Instr.indexAt,asIntOf,Sem.run_bind,Sem.run_pure,Result.andThen_ok,run_underlying (show E.P.underlying t=some (.array n e) from hd),Instr.sureAddr,aH il,oD (hE.ty _ ie hie),Sem.run_ite,add_lit];simp[fU]
 |_=>cases ho
def run_sliceBound {k:IntKind} (h1:n<=y) (c:BoundsCode):(Instr.sliceBound (.int k (.ofNat n)) y c).run P w= .ok n w:=by
 have:(0:Int)<=Int.ofNat n/\Int.ofNat n<=(y:Int):=⟨by simp,by simp;omega⟩
 simp only[Instr.sliceBound,asIntOf,Sem.run_bind,Sem.run_pure,Result.andThen_ok,Sem.run_ite];rw[aH this];rfl
def yk {tm:Tf} (dY:FR g nt tm a.tmps) {x:Option Operand} {r:bP} (h:j0 tm x=some r):
  (x=none/\r=none)\/∃y k n,x=some y/\r=some n/\a.eval y= .int k (.ofNat n):=by
 cases x with
 |none=>cases h;exact .inl ⟨rfl,rfl⟩
 |some y=>
  obtain ⟨v,hv,h⟩:=aq h;obtain ⟨n,hn,h⟩:=aq h;cases h;obtain ⟨k,rfl⟩:=ub hn;have:=om dY hv;generalize hu:a.eval y=u at this;cases this with
  |int _ _ e=>exact .inr ⟨y,k,n,rfl,rfl,by rw[hu,e];rfl⟩
def pJ {tm:Tf} (dY:FR g nt tm a.tmps) {mx:Option Operand} {l u m:bP} (hl:j0 tm lo=some l) (hu:j0 tm hi=some u) (hm:j0 tm mx=some m) (tu:Bool) (len cap:Nat) (h1:l.getD 0<=u.getD len) (h2:u.getD len<=m.getD cap) (h3:m.getD cap<=cap) (h4:m≠none->u≠none):
  (Instr.sliceBounds tu len cap (lo.map a.eval) (hi.map a.eval) (mx.map a.eval)).run P w= .ok (l.getD 0,u.getD len,m.getD cap) w:=by
 rcases yk dY hl with ⟨rfl,rfl⟩|⟨y1,k1,n1,rfl,rfl,e1⟩<;>rcases yk dY hu with ⟨rfl,rfl⟩|⟨y2,k2,n2,rfl,rfl,e2⟩<;>rcases yk dY hm with ⟨rfl,rfl⟩|⟨y3,k3,n3,rfl,rfl,e3⟩<;>
  simp only[xn,Kk] at h1 h2 h3<;>
  first
   |exact absurd rfl (h4 (Option.some_ne_none _))
   |(
    simp only[Instr.sliceBounds,HY,Sp,Sem.run_bind,Sem.run_pure,Result.andThen_ok,xn,Kk,Option.isSome_some,Option.isSome_none]
    try simp only[e3,run_sliceBound (P:=P) (w:=w) (k:=k3) h3,Result.andThen_ok]
    try simp only[e2,run_sliceBound (P:=P) (w:=w) (k:=k2) h2,Result.andThen_ok]
    try simp only[e1,run_sliceBound (P:=P) (w:=w) (k:=k1) h1,Result.andThen_ok])
def yx {m:bP} (h:nr m=true):m.getD 0=0:=by
 cases m with
 |none=>rfl
 |some n=>exact (beq_iff _ _).1 h
def W8 (a:Addr):a.add 0=a:=by unfold Addr.add;split<;>simp_all
def aic {id h:Nat} {size:Nat} {m:Cp} (hρ:g.Z id=some (b,o)) (h1:l<=h) (h2:h<=M) (hm:∀k,m= .k k->M=k) (hz:∀e,m= .u e->g.et id=e/\size=g.sz e/\off+M*size<=g.lim id):
  VR g (.slice (some (if M=l then ⟨b,o+off,none⟩ else (⟨b,o+off,none⟩:Addr).add (l*size))) (h-l) (M-l)) (zt id off l h size m):=by
 by_cases h0:l=0
 ·subst h0;have e1:zt id off 0 h size m= .sl id off h m:=rfl;have e2:(if M=0 then (⟨b,o+off,none⟩:Addr) else (⟨b,o+off,none⟩:Addr).add (0*size))=⟨b,o+off,none⟩:=by
   split
   ·rfl
   ·rw[lT,W8]
  rw[e1,e2];exact .sl hρ (by omega) (λk hk=>by rw[hm k hk];omega) (λe hn=>by obtain ⟨q0,q1,q2⟩:=hz e hn;rw[<-q1];exact ⟨q0,q2⟩)
 ·have e0:Nat.beq l 0=false:=by rw[beq_eq];simpa using h0
  by_cases cV:l+1<=h
  ·have e1:zt id off l h size m= .sl id (off+l*size) (h-l) (FX m l):=by
    unfold zt;rw[e0,show Nat.ble (Nat.succ l) h=true from (bV _ _).2 cV];rfl
   rw[e1,aM (by omega),add_lit,fU]
   refine .sl hρ (by omega) (λk hk=> ?_) (λe hk=> ?_)
   ·cases m with
    |u e'=>cases hk
    |k c=>cases hk;rw[hm c rfl];rfl
   ·cases m with
    |k c=>cases hk
    |u e'=>
     cases hk;obtain ⟨q0,q1,q2⟩:=hz _ rfl;rw[<-q1];refine ⟨q0,?_⟩;have:l*size+(M-l)*size=M*size:=by rw[<-gA];congr 1;omega
     show off+l*size+(M-l)*size<=g.lim id;omega
  ·have e1:zt id off l h size m= .sle:=by
    unfold zt;rw[e0,show Nat.ble (Nat.succ l) h=false from by rw[ble_eq];simpa using cV]
   rw[e1];have:h-l=0:=by omega
   rw[this];exact .sle
def Ir {id:Nat} {cap:Cp} {lo hi mx:bP} {z:SV} (h:xH E e id off n cap lo hi mx=some z):
  ∃ie,E.ty.get e=some ie/\lo.getD 0<=hi.getD n/\hi.getD n<=reach cap n/\(∀m,mx=some m->hi.getD n<=m/\m<=reach cap n)/\(∀e',cap= .u e'->e'=e)/\z=zt id off (lo.getD 0) (hi.getD n) ie.size (orC mx cap):=by
 obtain ⟨ie,hie,h⟩:=aq h;obtain ⟨hc,h⟩:=aV h;cases h;rw[bF,bF,bF] at hc;refine ⟨ie,hie,(bV _ _).1 hc.2.1,(bV _ _).1 hc.2.2.1,λm hm=> ?_,λe' he=>by subst he;exact (beq_iff _ _).1 hc.1,rfl⟩
 subst hm;have:=hc.2.2.2;simp only[akr,bF] at this;exact ⟨(bV _ _).1 this.1,(bV _ _).1 this.2⟩
def afz (hE:dV E g) {tm:Tf} (dY:FR g nt tm a.tmps) {x z:SV} (hv:VR g v x) {mx:Option Operand} {l u m:bP} (hl:j0 tm lo=some l) (hu:j0 tm hi=some u) (hm:j0 tm mx=some m) (fV:A4 E t x l u m=some z):
  ∃r,(Instr.sliceAt t v (lo.map a.eval) (hi.map a.eval) (mx.map a.eval)).run E.P w= .ok r w/\VR g r z:=by
 obtain ⟨i,sX,ho⟩:=aq fV;obtain ⟨hmh,ho⟩:=aV ho;have h4:m≠none->u≠none:=by
  intro hm hu;subst hu;cases m with
  |none=>exact hm rfl
  |some k=>simp[awN] at hmh
 have hd:=(hE.ty t i sX).desc;generalize i.desc=D at hd ho;cases D with
 |string=>
  obtain ⟨s,hs,ho⟩:=aq (show az (strOf x) (λs=>Z4 s l u m)=some z from ho)
  obtain rfl:=mS hs;cases hv;cases m with
  |some _=>cases ho
  |none=>
   obtain ⟨hc,ho⟩:=aV (show aP (Nat.ble (l.getD 0) (u.getD s.size)&&Nat.ble (u.getD s.size) s.size) (some (SV.str (s.extract (l.getD 0) (u.getD s.size)))) none=some z from ho);cases ho;rw[bF] at hc;have hmx:mx=none:=by
    rcases yk dY hm with ⟨rfl,_⟩|⟨_,_,_,_,hx,_⟩
    ·rfl
    ·simp at hx
   subst hmx;have hb:=pJ (P:=E.P) (w:=w) dY hl hu (mx:=none) (m:=none) rfl false s.size s.size ((bV _ _).1 hc.1) ((bV _ _).1 hc.2) (dg _) (by simp)
   refine ⟨.string (s.extract (l.getD 0) (u.getD s.size)),?_,.str _⟩;simp only[Sp] at hb;simp only[Instr.sliceAt,Sem.run_bind,run_underlying (show E.P.underlying t=some .string from hd),Result.andThen_ok,Instr.slice,Sp,Option.isSome_none,aC,aA,Sem.run_ite,Sem.run_pure,hb]
 |slice e=>
  obtain ⟨ie0,hie0,ho⟩:=aq (show az (E.ty.get e) (λ_=>Iq x E e l u m)=some z from ho)
  cases hv with
  | @sl id off n b o c cap hρ hn jh vr=>
   obtain ⟨ie,hie,c1,c2,c3,c4,rfl⟩:=Ir (show xH E e id off n cap l u m=some z from ho);have xj:reach cap n<=c:=by
    cases cap with
    |u e'=>exact hn
    |k m=>rw[jh m rfl];exact dg _
   have hb:=pJ (P:=E.P) (w:=w) dY hl hu hm true n c c1 (by
    cases m with
    |none=>simp;omega
    |some k=>exact (c3 k rfl).1) (by
    cases m with
    |none=>simp
    |some k=>simp;have:=(c3 k rfl).2;omega) h4
   refine ⟨_,?_,aic (M:=m.getD c) hρ c1 (by
    cases m with
    |none=>simp;omega
    |some k=>exact (c3 k rfl).1) (λk hk=> ?_) (λe' hk=> ?_)⟩
   ·simp only[Instr.sliceAt,Sem.run_bind,run_underlying (show E.P.underlying t=some (.slice e) from hd),Result.andThen_ok,Instr.slice,hb,oD (hE.ty _ ie hie),Sem.run_pure];congr 2;split<;>rfl
   ·cases m with
    |some k'=>cases hk;rfl
    |none=>exact jh k hk
   ·cases m with
    |some k'=>cases hk
    |none=>
     have hk:cap= .u e':=hk;obtain ⟨l1,l2⟩:=vr e' hk;have he:=c4 e' hk;subst he;have mD:=hE.size hie;exact ⟨l1,mD.symm,by rw[<-mD];exact l2⟩
  | @sle ad c=>
   obtain ⟨hc,ho⟩:=aV (show aP (nr l&&(nr u&&m.isNone)) (some SV.sle) none=some z from ho);cases ho;rw[bF,bF] at hc;have z1:=yx hc.1;have z2:=yx hc.2.1;have hm0:m=none:=by cases m with|none=>rfl|some k=>simp at hc
   subst hm0;have hb:=pJ (P:=E.P) (w:=w) dY hl hu hm true 0 c (by rw[z1];omega) (by rw[z2];simp) (dg _) h4
   rw[z1,z2] at hb;refine ⟨.slice (if c=0 then ad else ad.map (·.add (0*ie0.size))) (0-0) (c-0),?_,.sle⟩
   simp only[Instr.sliceAt,Sem.run_bind,run_underlying (show E.P.underlying t=some (.slice e) from hd),Result.andThen_ok,Instr.slice,hb,oD (hE.ty _ ie0 hie0),Sem.run_pure,Kk]
  |dD=>
   obtain ⟨hc,ho⟩:=aV (show aP (nr l&&(nr u&&nr m)) (some SV.dD) none=some z from ho);cases ho;rw[bF,bF] at hc;have z1:=yx hc.1;have z2:=yx hc.2.1;have z3:=yx hc.2.2;have hb:=pJ (P:=E.P) (w:=w) dY hl hu hm true 0 0 (by rw[z1];omega) (by rw[z2];omega) (by rw[z3];omega) h4
   rw[z1,z2,z3] at hb;refine ⟨.slice none 0 0,?_,.dD⟩;simp only[Instr.sliceAt,Sem.run_bind,run_underlying (show E.P.underlying t=some (.slice e) from hd),Result.andThen_ok,Instr.slice,hb,oD (hE.ty _ ie0 hie0),Sem.run_pure];simp
  |_=>cases ho
 |array n e=>
  obtain ⟨q,hq,ho⟩:=aq (show az (uX x) (λq=>xH E e q.1 q.2 n (.k n) l u m)=some z from ho)
  obtain rfl:=od hq;obtain ⟨ie,hie,c1,c2,c3,c4,rfl⟩:=Ir ho;have c2:u.getD n<=n:=c2;have c3:∀k,m=some k->u.getD n<=k/\k<=n:=c3;cases hv with
  | @ptr _ _ b o hρ=>
   have hb:=pJ (P:=E.P) (w:=w) dY hl hu hm false n n c1 (by
    cases m with
    |none=>simpa using c2
    |some k=>exact (c3 k rfl).1) (by
    cases m with
    |none=>simp
    |some k=>simpa using (c3 k rfl).2) h4
   refine ⟨_,?_,aic (M:=m.getD n) hρ c1 (by
    cases m with
    |none=>simpa using c2
    |some k=>exact (c3 k rfl).1) (λk hk=> ?_) (λe' hk=>by cases m<;>cases hk)⟩
   ·simp only[Instr.sliceAt,Sem.run_bind,run_underlying (show E.P.underlying t=some (.array n e) from hd),Result.andThen_ok,Instr.sureAddr,Sem.run_pure,hb,oD (hE.ty _ ie hie)]
   ·cases m with
    |some k'=>cases hk;rfl
    |none=>cases hk;rfl
 |_=>cases ho
end
section
variable {E:Env} {g:Gh} {f:Hf} {w:World}
variable {P:Program} {u2:Value}
def BK {id:Nat} {old:aY} (h:mf f id off n=some old):∃x e cs,f id=some x/\jb (some x) off n=some (e,cs)/\off+n<=cs.length/\old=(cs.drop off).take n:=by
 obtain ⟨p,hp,h⟩:=aq h;obtain ⟨hc,h⟩:=aV h;cases h;cases hf:f id with
 |none=>rw[hf] at hp;cases hp
 |some x=>exact ⟨x,p.1,p.2,rfl,by rw[<-hf];exact hp,(bV _ _).1 hc,rfl⟩
def afX (s:ByteArray):gL g (byteCells s) (LN s):=by
 unfold byteCells LN;generalize s.data.toList=l;induction l with
 |nil=>exact .nil
 |cons b l ih=>exact .cons rfl (.int _ _ (by simp[SI.ev])) ih
def asN {P : Program} {size : Nat} {tx : TypeId} (hk : (∃ e', P.underlying tx = some (.slice e')) \/ P.underlying tx = some .string) (h : HR g f w) {x : SV} {u : Value} (hu : VR g u x) {q : Nat × aY} (hs : uW f size x = some q) :
    ∃ news, Src P size tx u q.1 news w /\ gL g news q.2 := by
  have row : AX f size x = some q -> ∃ news, Src P size tx u q.1 news w /\ gL g news q.2 := by
    intro hs
    obtain ⟨n, xs, h1, h2, h3⟩ := bp hs
    cases h3
    rcases Wg h1 with ⟨id, off, c, rfl⟩ | ⟨rfl, rfl⟩ | ⟨rfl, rfl⟩
    · cases hu with
      | @sl _ _ _ b o c' _ hρ hn jh vr =>
        obtain ⟨x0, e, cs, q1, q1', q2, rfl⟩ := BK (show mf f id off (n * size) = some xs from h2)
        obtain ⟨vs, v1, v2, v3⟩ := OR.fT (h.at q1 hρ).2 q1' q2
        have sU : ∀ (j : Nat) (v : Value), vs[j]? = some v -> w.cell? ((⟨b, o + off, none⟩ : Addr).add j) = some v := λj v hv => by rw [add_lit]; exact v3 j v hv
        exact ⟨vs, ⟨hk, λ_ => rfl, run_firstCells_some w size n _ n c' vs v1 sU, run_firstCells_some w.drew size n _ n c' vs v1 (by simpa using sU), v1, v2.one⟩, v2⟩
    · cases hu
      cases h2
      exact ⟨[], ⟨hk, λ_ => rfl, run_firstCells_none w size 0 0 0, run_firstCells_none w.drew size 0 0 0, by simp, λ_ h => by cases h⟩, .nil⟩
    · cases hu with
      | @sle ad c =>
        cases h2
        refine ⟨[], ⟨hk, λ_ => rfl, ?_, ?_, by simp, λ_ h => by cases h⟩, .nil⟩ <;>
          (cases ad with
           | none => exact run_firstCells_none _ size 0 0 c
           | some a => exact run_firstCells_some _ size 0 a 0 c [] (by simp) (by simp))
  cases hu with
  | str s =>
    obtain ⟨h1, h2⟩ := aV (show aP (Nat.beq size 1) (some (s.size, LN s)) none = some q from hs)
    cases h2
    have := (beq_iff _ _).1 h1
    subst this
    refine ⟨byteCells s, ⟨hk, λ_ => rfl, firstCells_string s w, firstCells_string s w.drew, by rw [byteCells_length, Nat.mul_one], λu hu => by
      obtain ⟨_, _, rfl⟩ := cP.1 hu
      rfl⟩, afX s⟩
  | _ => exact row hs
def CE (hE:dV E g) (h:HR g f w) (hn:g.Z new=none) {ie:TI} (ht:E.P.underlying t=some (.slice e)) (hie:E.ty.get e=some ie) (jn:pT ie=true) {m:Nat} {olds news:fq} {old xs:aY} (ho:gL g olds old) (hol:olds.length=n*ie.size) (hold:(Builtin.firstCells ie.size n (.slice base n c)).run E.P w.drew= .ok olds.toArray w.drew) (hs:Src E.P ie.size tx u m news w) (hx:gL g news xs) (hgr:c<n+m) (h1:n<=1000000) (h2:m<=1000000):
  ∃r w' g',(Builtin.append_ #[t,tx] ty #[.slice base n c,u]).run E.P w= .ok r w'/\gV g f w (.sl new 0 (n+m) (.u e)) [(new,some (.cells e (old++xs)))] new r g' w':=by
 have hT:=hE.ty e ie hie;obtain ⟨it,z,q1,q2,_,_,q5,_⟩:=hT.info;obtain ⟨_,_,z3,z4,z5⟩:=Cb (g:=g) hT q1 q5 jn 0;have ln:=run_append_grow_src (P:=E.P) w t tx ty e it z ht q1 q5 base n c olds (by rw[q2];exact hold) u m news (by rw[q2];exact hs) hgr (by omega) (growslice_fits hgr (by
  have:(n+m)*it.bytes<=2000000*65536:=Nat.mul_le_mul (by omega) z4
  omega))
 have hge:=grownCap_ge w (n+m) c e;have hnl:=hs.newsLen;refine ⟨_,_,_,ln,h.row hn (w0:=w.drew) (l:=grownCap w (n+m) c e*ie.size) ⟨rfl,rfl,rfl,rfl⟩ rfl (ho.append hx) (λj v hv=> ?_) ?_ ?_⟩
 ·rw[HX,HW]
  ·exact hv
  ·simpa using (cf.1 hv).1
 ·simp only[Array.size_append,List.size_toArray,gD,size_zeroCells,z5,hol,hnl];rw[<-gA,<-gA];exact kJ _ (by omega)
 ·exact .sl (id:=new) (off:=0) (o:=0) (b:=w.heap.size) (cap:=.u e) (Gh.jc _ _ _ _ _) hge (λk hk=>by cases hk) (λe' he=>by
   cases he;refine ⟨Gh.AL _ _ _ _ _,?_⟩;rw[Gh.yc];show 0+grownCap w (n+m) c e*g.sz e<=_;rw[hE.size hie];omega)
def DB (ht:P.underlying t=some (.slice e)) (hi:P.info? e=some it) (uL:n<=c) (hs:Src P it.size tx u 0 [] w):
  (Builtin.append_ #[t,tx] ty #[.slice base n c,u]).run P w= .ok (.slice base n c) w:=by
 have hc:=hs.cells;rcases hs.kind with ⟨e',hk⟩|hk<;>cases base<;>simp[Builtin.append_,run_underlying ht,run_underlying hk,sizeOf,typeInfo,hi,hs.len,uL,hc,storeCells]
def M1 (ht:P.underlying t=some (.slice e)) (hi:P.info? e=some it) {m:Nat} {news:fq} (hs:Src P it.size tx u m news w) (mq:n+m<=c) (nG:(storeCells ⟨b,o+n*it.size,none⟩ news 0).run P w= .ok () w'):
  (Builtin.append_ #[t,tx] ty #[.slice (some ⟨b,o,none⟩) n c,u]).run P w= .ok (.slice (some ⟨b,o,none⟩) (n+m) c) w':=by
 rcases hs.kind with ⟨e',hk⟩|hk<;>simp[Builtin.append_,run_underlying ht,run_underlying hk,sizeOf,typeInfo,hi,hs.len,mq,hs.cells,add_lit,nG]
def aBI (hE:dV E g) {ix:TI} (yU:E.ty.get tx=some ix) (hr:Iw ix.desc=true):(∃e',E.P.underlying tx=some (.slice e'))\/E.P.underlying tx=some .string:=by
 have hd:=(hE.ty tx ix yU).desc;generalize ix.desc=D at hd hr;cases D<;>simp[Iw] at hr
 ·exact .inr hd
 ·exact .inl ⟨_,hd⟩
def aqL {x:SV} (h:U2 x=true):(∃i o n c,x= .sl i o n c)\/x= .dD\/x= .sle:=by
 cases x<;>first|exact .inl ⟨_,_,_,_,rfl⟩|exact .inr (.inl rfl)|exact .inr (.inr rfl)|cases h
def gV.kill (h:HR g f w) {id:Nat} {v:SV} {us:dN} {g':Gh} (hp:gV g (jk f (id,none)) w v us new r g' w'):gV g f w v ((id,none)::us) new r g' w':=
 ⟨hp.val,hp.hr,(h.kill id).2.trans hp.fr,hp.ro,λxW=>by cases xW⟩
def acp (hE:dV E g) (h:HR g f w) (hn:g.Z new=none) {ix:TI} {s x:SV} (h1:VR g u1 s) (h2:VR g u2 x) (yU:E.ty.get tx=some ix) (GA:Iw ix.desc=true) {v:SV} {us:dN} (fV:nK E f new t s x=some (v,us)):∃r w' g',(Builtin.append_ #[t,tx] ty #[u1,u2]).run E.P w= .ok r w'/\gV g f w v us new r g' w':=by
 obtain ⟨i,hi,ho⟩:=aq fV;obtain ⟨e,he,ho⟩:=aq ho;obtain ⟨ie,hie,ho⟩:=aq (show az (E.ty.get e) _=some (v,us) from ho);obtain ⟨jn,ho⟩:=aV ho;obtain ⟨q,hq,ho⟩:=aq ho;obtain ⟨hq1,ho⟩:=aV ho;have hq1:q.1<=1000000:=(bV _ _).1 hq1;have ht:=(hE.ty t i hi).desc;rw[uF he] at ht;have ht:E.P.underlying t=some (.slice e):=ht;have hT:=hE.ty e ie hie;obtain ⟨it,z,q1,q2,_,_,q5,_⟩:=hT.info;obtain ⟨_,_,z3,z4,z5⟩:=Cb (g:=g) hT q1 q5 jn 0;obtain ⟨news,hs,hx⟩:=asN (aBI hE yU GA) h h2 hq;rw[bG] at ho;split at ho
 ·rename_i h0;have h0:=(beq_iff _ _).1 h0;obtain ⟨Ey,ho⟩:=aV ho;cases ho;have hnl:=hs.newsLen;rw[h0] at hs hnl;have:news= []:=sq (by simpa using hnl)
  subst this;rw[<-q2] at hs;rcases aqL Ey with ⟨id,off,n,cp,rfl⟩|rfl|rfl
  ·cases h1 with
   |sl hρ uL jh vr=>exact ⟨_,w,g,DB ht q1 uL hs,gV.same h (.sl hρ uL jh vr)⟩
  ·cases h1;exact ⟨_,w,g,DB ht q1 (dg _) hs,gV.same h .dD⟩
  ·cases h1;exact ⟨_,w,g,DB ht q1 (qF _) hs,gV.same h .sle⟩
 ·rename_i h0;have h0:q.1≠0:=λe=>h0 ((beq_iff _ _).2 e)
  cases h1 with
  |dD=>
   cases (show some (SV.sl new 0 q.1 (.u e),[(new,some (SO.cells e q.2))])=some (v,us) from ho);have:=CE hE h hn (ty:=ty) (n:=0) (c:=0) (base:=none) (olds:= []) (old:= []) ht hie jn .nil (by simp) (run_firstCells_none _ _ _ _ _) hs hx (by omega) (by omega) hq1
   simpa using this
  | @sl id off n b o c cap hρ uL jh vr=>
   obtain ⟨xf,ho⟩:=aV (show aP (Nat.ble n 1000000) (aP (Xm n q.1 cap) (az (mf f id off (Nat.mul n ie.size)) λold=>wk new e (Nat.add n q.1) (old++q.2) []) (bU (nk (f id)) (mf f id off (Nat.mul n ie.size)) λp old=>Qj new e ie.size id off n cap q.1 q.2 p old)) none=some (v,us) from ho)
   have xf:n<=1000000:=(bV _ _).1 xf;rw[bG] at ho;split at ho
   ·rename_i I9;obtain ⟨old,hold,ho2⟩:=aq ho;obtain ⟨x0,e',cs',r1,r1',r2,rfl⟩:=BK hold;have uK:=(h.at r1 hρ).2;obtain ⟨vs,v1,v2,v3⟩:=OR.fT uK r1' r2;have PO:(Builtin.firstCells ie.size n (.slice (some ⟨b,o+off,none⟩) n c)).run E.P w.drew= .ok vs.toArray w.drew:=
     run_firstCells_some w.drew ie.size n _ n c vs v1 (λj v hv=>by rw[add_lit];simpa using v3 j v hv)
    cases cap with
    |u e0=>cases I9
    |k c0=>
     have vS:=jh c0 rfl;subst vS;have hgr:c<n+q.1:=(bV _ _).1 I9;cases ho2;exact CE hE h hn ht hie jn v2 v1 PO hs hx hgr xf hq1
   ·obtain ⟨p,old,hp,hold,ho⟩:=bp ho;have hf:=kU hp;obtain ⟨x0,e',cs',r1,r1',r2,rfl⟩:=BK hold;rw[hf] at r1;cases r1;cases r1';have o4:Cells g w id b o p.1 p.2:=(h.at hf hρ).2;obtain ⟨vs,v1,v2,v3⟩:=o4.fT off (n*ie.size) r2;have PO:(Builtin.firstCells ie.size n (.slice (some ⟨b,o+off,none⟩) n c)).run E.P w.drew= .ok vs.toArray w.drew:=
     run_firstCells_some w.drew ie.size n _ n c vs v1 (λj v hv=>by rw[add_lit];simpa using v3 j v hv)
    have grow:c<n+q.1->∃r w' g',(Builtin.append_ #[t,tx] ty #[.slice (some ⟨b,o+off,none⟩) n c,u2]).run E.P w= .ok r w'/\gV g f w (.sl new 0 (n+q.1) (.u e)) [(new,some (.cells e ((p.2.drop off).take (n*ie.size)++q.2)))] new r g' w':=
     λhgr=>CE hE h hn ht hie jn v2 v1 PO hs hx hgr xf hq1
    have hxl:q.2.length=q.1*ie.size:=by rw[<-hx.length];exact hs.newsLen
    cases cap with
    |k c0=>
     have vS:=jh c0 rfl;subst vS;have ho:aP (Nat.ble (Nat.add n q.1) c)
      (aP (Nat.ble (Nat.add off (Nat.mul (Nat.add n q.1) ie.size)) p.2.length) (some (SV.sl id off (Nat.add n q.1) (.k c),[(id,some (SO.cells p.1 (eI p.2 (Nat.add off (Nat.mul n ie.size)) q.2)))])) none)
      (wk new e (Nat.add n q.1) ((p.2.drop off).take (n*ie.size)++q.2) [])=some (v,us):=ho
     rw[bG] at ho;split at ho
     ·rename_i hle;have hle:n+q.1<=c:=(bV _ _).1 hle;obtain ⟨auk,ho⟩:=aV ho;have auk:off+(n+q.1)*ie.size<=p.2.length:=(bV _ _).1 auk;cases ho;obtain ⟨w',s1,s2,s3,s4,s5,s6,s7⟩:=o4.store (P:=E.P) (off:=off+n*ie.size) hx (by rw[hxl];rw[gA] at auk;omega)
      obtain ⟨t1,t2⟩:=h.write (o':=.cells p.1 (eI p.2 (off+n*ie.size) q.2)) hf hρ s3 s4 s2 s5 s6 s7;refine ⟨_,w',g,M1 ht q1 (by rw[q2];exact hs) hle (by rw[q2,fU];exact s1),⟨?_,t1,t2,λ_ _=>rfl,λ_=>rfl⟩⟩
      exact .sl hρ hle jh (λe he=>by cases he)
     ·rename_i hle;have hle:¬n+q.1<=c:=λe=>hle ((bV _ _).2 e)
      cases ho;exact grow (by omega)
    |u e0=>
     obtain ⟨l1,l2⟩:=vr e0 rfl;obtain ⟨hc,ho⟩:=aV (show aP (Nat.ble (Nat.add off (Nat.mul n ie.size)) p.2.length&&Nat.beq e p.1) (wk new e (Nat.add n q.1) ((p.2.drop off).take (n*ie.size)++q.2) [(id,none)]) none=some (v,us) from ho);cases ho;rw[bF] at hc;have sZ:off+n*ie.size<=p.2.length:=(bV _ _).1 hc.1;have Jf:e=p.1:=(beq_iff _ _).1 hc.2;have he0:e0=e:=by rw[<-l1,o4.et,Jf]
     subst he0;rw[hE.size hie] at l2;by_cases hle:n+q.1<=c
     ·obtain ⟨⟨cur,m1,m0,vs0,m2,m3⟩,m4⟩:=o4;have mq:o+(off+n*ie.size)+news.length<=cur.size:=by
       have:=kJ ie.size hle;rw[hs.newsLen];rw[gA] at this;omega
      have ln:=run_storeCells_at E.P b (o+(off+n*ie.size)) p.1 news 0 cur w m1 (by omega) hs.one
      simp only[mZ] at ln;have hol:=v1;have uK:OR (g.bind new (b,o+off) (g.lim id-off) e0) (w.setRow b (cur.toList.take (o+(off+n*ie.size))++news++cur.toList.drop (o+(off+n*ie.size)+news.length)).toArray) new b (o+off) (.cells e0 ((p.2.drop off).take (n*ie.size)++q.2)):=by
       refine ⟨⟨(cur.toList.take (o+(off+n*ie.size))++news++cur.toList.drop (o+(off+n*ie.size)+news.length)).toArray,?_,?_,vs++news,(v2.append hx).mono (Gh.Er hn),λj v hv=> ?_⟩,Gh.AL _ _ _ _ _⟩
       ·rw[Jf];exact setRow_heap w b cur _ p.1 _ m1
       ·rw[Gh.yc];simp;omega
       ·rw[HW,zW (by simp;omega)]
        by_cases hj:j<n*ie.size
        ·rw[pD (by omega)] at hv
         rw[aM (by omega)]
         have:=v3 j v hv;rw[tE m1] at this;simpa using this
        ·have fS:j<vs.length+news.length:=by have:=(cf.1 hv).1;simpa using this
         rw[nP (by omega)] at hv
         rw[aH (by omega),<-hv]
         congr 1;omega
      obtain ⟨t1,t2⟩:=h.rename (o':=.cells e0 ((p.2.drop off).take (n*ie.size)++q.2)) hn hf hρ (by simp) (λk hk=>setRow_other w b k _ hk) uK rfl rfl rfl
      refine ⟨_,_,_,M1 ht q1 (by rw[q2];exact hs) hle (by rw[q2,fU];exact ln),⟨?_,t1,t2,λk hk=>Gh.lG _ _ _ _ hk,λxW=>by cases xW⟩⟩
      exact .sl (id:=new) (off:=0) (o:=o+off) (b:=b) (cap:=.u e0) (Gh.jc _ _ _ _ _) hle (λk hk=>by cases hk) (λe' he=>by
       cases he;refine ⟨Gh.AL _ _ _ _ _,?_⟩;rw[Gh.yc];show 0+c*g.sz e0<=_;rw[hE.size hie];omega)
     ·obtain ⟨k1,_⟩:=h.kill id;obtain ⟨r,w',g',a1,a2⟩:=CE hE k1 hn (ty:=ty) ht hie jn v2 v1 PO hs hx (by omega) xf hq1
      exact ⟨r,w',g',a1,a2.kill h⟩
  |_=>cases ho
end
end Go.bZ
namespace Go.bZ
open Go.RowKit Go.MapKept
variable {k:IntKind} {u u1:Value} {P:Program} {t ty:TypeId} {new n nt:Nat} {tu mx:Bool} {J:Type} {a:Act} {b:Builtin} {ts:Array TypeId}
section
variable {E:Env} {g:Gh} {f:Hf} {w:World}
variable {u2:Value}
def iD.get:∀{ms:List MapEntry} {xs:je},iD g ms xs->∀{j:Nat} {x:SV×SV×Nat},xs[j]? =some x->∃m,ms[j]? =some m/\amO g m x
 |_,_,.nil,_,_,h=>by simp at h
 |_,_,.cons hd ht,j,x,h=>by
  cases j with
  |zero=>simp at h;subst h;exact ⟨_,rfl,hd⟩
  |succ j=>simp at h;obtain ⟨m,a,b⟩:=ht.get h;exact ⟨m,by simpa using a,b⟩
def iD.length:∀{ms:List MapEntry} {xs:je},iD g ms xs->ms.length=xs.length
 |_,_,.nil=>rfl
 |_,_,.cons _ ht=>by simp[ht.length]
def iD.append:∀{ms ns:List MapEntry} {xs ys:je},iD g ms xs->iD g ns ys->iD g (ms++ns) (xs++ys)
 |_,_,_,_,.nil,k=>k
 |_,_,_,_,.cons hd ht,k=>.cons hd (ht.append k)
def iD.set:∀{ms:List MapEntry} {xs:je},iD g ms xs->∀{m:MapEntry} {x:SV×SV×Nat},amO g m x->∀(j:Nat),iD g (ms.set j m) (xs.set j x)
 |_,_,.nil,_,_,_,j=>by simpa using .nil
 |_,_,.cons hd ht,_,_,h,0=>by simpa using .cons h ht
 |_,_,.cons hd ht,_,_,h,j+1=>by simpa using .cons hd (ht.set h j)
def MP {k:SV} {D:UD} (hl:IS k D=true) (hd:JW P t D) (hu:VR g u k):∃d,P.underlying t=some d/\IsKey d u/\
  (∀(y:SV) (b:Bool) (u':Value),sameKey k y=some b->VR g u' y->Instr.sameNow d u u'=some b/\(b=true->u'=u)):=by
 cases hu with
 |bool a=>
  obtain rfl:=aaY (show Lt D=true from hl);refine ⟨.bool,hd,trivial,λy b u' hs se=> ?_⟩
  obtain ⟨p,q,h1,h2,h3⟩:=bp (show bU (oT (.bool a)) (oT y) (λa b=>some (a==b))=some b from hs)
  cases h1;obtain rfl:=uO h2;cases se;cases h3;exact ⟨rfl,λe=>by
   have:a=q:=by simpa using e
   rw[this]⟩
 | @int k e n he=>
  have hl:(isLit e&&akG k D)=true:=hl;rw[bF] at hl;obtain ⟨hl1,ED⟩:=hl;obtain rfl:D= .int k:=by
   cases D with
   |int k'=>rw[ni ED]
   |_=>cases ED
  cases e with
  |lit n0=>
   subst he;refine ⟨.int k,hd,rfl,λy b u' hs se=> ?_⟩
   obtain ⟨p,h1,h2⟩:=aq (show az (intOf y) (λp=>aP (gF k p.1) (awr (.lit n) p.2) none)=some b from hs)
   obtain ⟨hk,h3⟩:=aV h2;have hk:=ni hk;obtain rfl:=rH h1;obtain ⟨pk,pe⟩:=p;simp only at hk h3 se;subst hk;cases pe with
   |lit m=>
    cases se with
    | @int _ _ m' e2=>
     subst e2;cases h3;rw[AH];refine ⟨?_,λe=> ?_⟩
     ·simp only[Instr.sameNow,aB,SI.ev];congr 1
     ·have:n=m':=by simpa using e
      rw[this]
 |str s=>
  obtain rfl:=afU (show Ew D=true from hl);refine ⟨.string,hd,trivial,λy b u' hs se=> ?_⟩
  obtain ⟨p,q,h1,h2,h3⟩:=bp (show bU (strOf (.str s)) (strOf y) (λa b=>some (De a b))=some b from hs)
  cases h1;obtain rfl:=mS h2;cases se;cases h3;rw[vD];refine ⟨?_,λe=> ?_⟩
  ·simp only[Instr.sameNow];congr 1;rw[ly,bytes_beq];simp
  ·have:s=q:=by simpa using e
   rw[this]
 |_=>cases hl
def GL {k:SV} {u:Value} {d:TypeDesc} (hk:∀(y:SV) (b:Bool) (u':Value),sameKey k y=some b->VR g u' y->Instr.sameNow d u u'=some b/\(b=true->u'=u)):
  ∀{ms:List MapEntry} {es:je},iD g ms es->∀(i:Nat) (r:Option (Nat×SV×Nat)),pQ k es i=some r->
   (r=none/\Instr.findNow d u ms i=some none)\/∃j x m,r=some (i+j,x.2.1,x.2.2)/\es[j]? =some x/\ms[j]? =some m/\m.key=u/\Instr.findNow d u ms i=some (some (i+j,m.val))
 |_,_,.nil,i,r,h=>by cases h;exact .inl ⟨rfl,rfl⟩
 |_,_,.cons (m:=m) (x:=x) (ms:=ms) (xs:=es) hd ht,i,r,h=>by
  unfold pQ at h;cases hs:sameKey k x.1 with
  |none=>rw[hs] at h;cases h
  |some b=>
   rw[hs] at h;obtain ⟨h1,h2⟩:=hk x.1 b m.key hs hd.1;cases b with
   |true=>
    cases h;exact .inr ⟨0,x,m,rfl,rfl,rfl,h2 rfl,by simp[Instr.findNow,h1]⟩
   |false=>
    rcases GL hk ht (i+1) r h with ⟨q1,q2⟩|⟨j,y,m',q1,q2,q3,q4,q5⟩
    ·exact .inl ⟨q1,by simp[Instr.findNow,h1,q2]⟩
    ·refine .inr ⟨j+1,y,m',by rw[q1];congr 2;omega,by simpa using q2,by simpa using q3,q4,?_⟩
     simp[Instr.findNow,h1,q5];omega
def aaQ (hE:dV E g) (h:HR g f w) {x k z:SV} (h1:VR g u1 x) (h2:VR g u2 k) {ok:Bool} (fV:sF E f t x k ok=some z):
  ∃r,(Instr.lookup t u1 u2 ok).run E.P w= .ok r w/\VR g r z:=by
 obtain ⟨i,hi,ho⟩:=aq fV;obtain ⟨q,hq,ho⟩:=aq ho;obtain ⟨ik,ie,hik,hie,ho⟩:=bp ho;obtain ⟨hl,ho⟩:=aV ho;obtain ⟨es,hes,ho⟩:=aq ho;obtain ⟨r,hr,ho⟩:=aq ho;have ht:=(hE.ty t i hi).desc;rw[IP hq] at ht;have ht:E.P.underlying t=some (.map q.1 q.2):=ht;obtain ⟨d,hd,akT,akO⟩:=MP hl (hE.ty _ ik hik).desc h2;obtain ⟨zv,z1,z2,z3⟩:=aaa (hE.ty _ ie hie);have main:∀(ms:Array MapEntry),iD g ms.toList es->(Instr.checkKey ms.isEmpty 10000 q.1 u2).run E.P w= .ok () w/\∃a rv,(Instr.findKey q.1 u2 ms.toList).run E.P w= .ok a w/\VR g rv z/\
   ((a=none/\rv=if ok then Value.tuple #[zv,.bool false] else zv)\/∃j v,a=some (j,v)/\rv=if ok then Value.tuple #[v,.bool true] else v):=by
  intro ms hms;refine ⟨run_checkKey (P:=E.P) (w:=w) hd akT ms.isEmpty 9999,?_⟩;rcases GL akO hms 0 r hr with ⟨rfl,q2⟩|⟨j,y,m,rfl,q2,q3,q4,q5⟩
  ·obtain ⟨zz,hz,ho⟩:=aq (show az (ia ie ie.zero 0) (λz=>some (okV ok z false))=some z from ho)
   cases ho;refine ⟨none,_,run_findKey (P:=E.P) (w:=w) hd q2,?_,.inl ⟨rfl,rfl⟩⟩;have:=akj (g:=g) z2 z3 hz;cases ok
   ·exact this
   ·exact .cS (.cons this (.cons (.bool false) .nil))
  ·obtain ⟨m',r1,r2⟩:=hms.get q2;rw[q3] at r1;obtain rfl:m=m':=by simpa using r1
   cases (show some (okV ok y.2.1 true)=some z from ho);refine ⟨_,_,run_findKey (P:=E.P) (w:=w) hd q5,?_,.inr ⟨_,_,rfl,rfl⟩⟩;cases ok
   ·exact r2.2.1
   ·exact .cS (.cons r2.2.1 (.cons (.bool true) .nil))
 cases h1 with
 |mn=>
  cases (show some ([]:je)=some es from hes);obtain ⟨EH,a,rv,r1,r2,r3⟩:=main #[] .nil;refine ⟨rv,?_,r2⟩;rcases r3 with ⟨rfl,rfl⟩|⟨j,v,rfl,rfl⟩<;>simp only[Instr.lookup,Sem.run_bind,run_underlying ht,Result.andThen_ok,Sem.run_pure,EH,r1,z1]
 | @mp id b o hρ=>
  obtain ⟨p,hp,hes⟩:=aq (show az (j1 (f id)) (λp=>some p.1)=some es from hes)
  cases hes;have hf:=yJ hp;obtain ⟨ms,m1,m2⟩:=(h.at hf hρ).2;obtain ⟨EH,a,rv,r1,r2,r3⟩:=main ms m2;refine ⟨rv,?_,r2⟩;rcases r3 with ⟨rfl,rfl⟩|⟨j,v,rfl,rfl⟩<;>simp only[Instr.lookup,Sem.run_bind,run_underlying ht,Result.andThen_ok,Sem.run_pure,MapKept.run_getObj_map m1,EH,r1,z1]
 |_=>cases hes
def VV (hE:dV E g) (h:HR g f w) {x k v:SV} {u3:Value} (h1:VR g u1 x) (h2:VR g u2 k) (h3:VR g u3 v) {us:dN} (fV:vh E f t x k v=some us):
  ∃w',(Instr.mapUpdate t u1 u2 u3).run E.P w= .ok () w'/\HR g (gx f us) w'/\Fr g f w g (gx f us) w':=by
 obtain ⟨id,iI,ho⟩:=aq fV;obtain ⟨i,hi,ho⟩:=aq ho;obtain ⟨q,hq,ho⟩:=aq ho;obtain ⟨ik,p,hik,hp,ho⟩:=bp ho;obtain ⟨hl,ho⟩:=aV ho;obtain ⟨r,hr,ho⟩:=aq ho;cases ho;obtain rfl:=Wb iI;have ht:=(hE.ty t i hi).desc;rw[IP hq] at ht;have ht:E.P.underlying t=some (.map q.1 q.2):=ht;obtain ⟨d,hd,akT,akO⟩:=MP hl (hE.ty _ ik hik).desc h2;have hf:=yJ hp;cases h1 with
 | @mp _ b o hρ=>
  obtain ⟨hb,ms,m1,m2⟩:=h.at hf hρ;have EH:=run_checkKey (P:=E.P) (w:=w) hd akT false 9999;have fin:∀(Em:Array MapEntry) (CH:je) (c':Nat),iD g Em.toList CH->HR g (jk f (id,some (.map CH c'))) {w with heap:=w.heap.setIfInBounds b (.map Em c')}/\Fr g f w g (jk f (id,some (.map CH c'))) {w with heap:=w.heap.setIfInBounds b (.map Em c')}:=by
   intro Em CH c' he;obtain ⟨s1,s2⟩:=heap_set (o':=Obj.map Em c') m1;exact h.write hf hρ (by simp) (λk hk=>s2 k hk) ⟨Em,s1,he⟩ rfl rfl rfl
  rcases GL akO m2 0 r hr with ⟨rfl,q2⟩|⟨j,y,m,rfl,q2,q3,q4,q5⟩
  ·have hfk:=run_findKey (P:=E.P) (w:=w) hd q2;refine ⟨_,?_,fin (ms.push {key:=u2,val:=u3,born:=p.2}) (p.1++ [(k,v,p.2)]) (p.2+1) (by rw[Array.toList_push];exact m2.append (.cons ⟨h2,h3,rfl⟩ .nil))⟩
   simp only[Instr.mapUpdate,Sem.run_bind,run_underlying ht,Result.andThen_ok,MapKept.run_getObj_map m1,EH,hfk];exact run_setObj_map _ m1
  ·have hfk:=run_findKey (P:=E.P) (w:=w) hd q5;obtain ⟨m',r1,r2⟩:=m2.get q2;rw[q3] at r1;obtain rfl:m=m':=by simpa using r1
   rw[cC] at hfk;have hmj:ms[j]? =some m:=by simpa using q3
   have hold:(((ms[j]?).map (·.key)).getD u2)=u2:=by rw[hmj];simpa using q4
   have EE:(Instr.keyThatStays u2 u2).run E.P w= .ok u2 w:=by simp[Instr.keyThatStays,sameBits_self akT]
   refine ⟨_,?_,fin (ms.modify j λe=>{e with key:=u2,val:=u3}) (p.1.set (0+j) (k,v,y.2.2)) p.2 ?_⟩
   ·simp only[Instr.mapUpdate,Sem.run_bind,run_underlying ht,Result.andThen_ok,MapKept.run_getObj_map m1,EH,hfk,hold,EE];exact run_setObj_map _ m1
   ·have:(ms.modify j λe=>{e with key:=u2,val:=u3}).toList=ms.toList.set j {m with key:=u2,val:=u3}:=by
     apply DQ;intro n;rw[lx,HZ,List.getElem?_set];by_cases hn:j=n
     ·subst hn;have cV:j<ms.size:=(na.1 hmj).1;have mM:ms[j]=m:=(na.1 hmj).2;simp[cV,mM]
     ·simp[hn]
    rw[this,cC];exact m2.set (m:={m with key:=u2,val:=u3}) (x:=(k,v,y.2.2)) ⟨h2,h3,r2.2.2⟩ j
end
section
variable {E:Env} {g:Gh} {f:Hf} {w:World}
def aaC (hE:dV E g) (h:HR g f w) (hn:g.Z new=none) {x:SV} (hu:VR g u x) {v:SV} {us:dN} (fV:vL E f new t x=some (v,us)):
  ∃r w' g',(Instr.range t u).run E.P w= .ok r w'/\gV g f w v us new r g' w':=by
 obtain ⟨i,hi,ho⟩:=aq fV;obtain ⟨o,EB,ho⟩:=aq ho;cases ho;have ht:=(hE.ty t i hi).desc;have fin:∀(ob:Obj),(Instr.range t u).run E.P w= .ok (.pointer (some ⟨w.heap.size,0,none⟩)) (w.alloc ob)->OR (g.bind new (w.heap.size,0) 0 0) (w.alloc ob) new w.heap.size 0 o->
   ∃r w' g',(Instr.range t u).run E.P w= .ok r w'/\gV g f w (.ptr new 0) [(new,some o)] new r g' w':=by
  intro ob ln uK;obtain ⟨r1,r2⟩:=h.alloc hn (o':=o) (w':=w.alloc ob) (l:=0) (e:=0) rfl uK;exact ⟨.pointer (some ⟨w.heap.size,0,none⟩),_,_,ln,⟨.ptr (o:=0) (off:=0) (Gh.jc _ _ _ _ _),r1,r2,λid cY=>Gh.lG _ _ _ _ cY,λxW=>by cases xW⟩⟩
 generalize i.desc=D at ht EB;cases D with
 |string=>
  have ht:E.P.underlying t=some .string:=ht;obtain ⟨s,hs,EB⟩:=aq (show az (strOf x) (λs=>some (SO.nA s 0))=some o from EB)
  cases EB;obtain rfl:=mS hs;cases hu;refine fin (.stringIter s 0) ?_ ⟨rfl,heap_alloc_new w _⟩;simp[Instr.range,run_underlying ht,newObj];rfl
 |map kt et=>
  have ht:E.P.underlying t=some (.map kt et):=ht;cases hu with
  |mn=>
   cases (show some (SO.mapIter none 0 [] 0)=some o from EB);refine fin (.mapIter none 0 #[] 0) ?_ ⟨rfl,none,#[],heap_alloc_new w _,rfl,rfl⟩;simp[Instr.range,run_underlying ht,newObj];rfl
  | @mp id b c hρ=>
   obtain ⟨p,hp,EB⟩:=aq (show az (j1 (f id)) (λp=>some (SO.mapIter (some id) p.2 [] p.2))=some o from EB)
   cases EB;have hf:=yJ hp;obtain ⟨hb,ms,m1,m2⟩:=h.at hf hρ;have cY:id≠new:=λe=>by subst e;rw[hn] at hρ;cases hρ
   refine fin (.mapIter (some b) p.2 #[] p.2) ?_ ⟨rfl,some b,#[],heap_alloc_new w _,rfl,b,c,rfl,by rw[Gh.lG _ _ _ _ cY];exact hρ⟩
   simp[Instr.range,run_underlying ht,newObj,MapKept.run_getObj_map m1];rfl
  |_=>cases EB
 |_=>cases EB
def afJ (hE:dV E g) (h:HR g f w) {x:SV} (hu:VR g u x) {v:SV} {us:dN} (fV:yH f tu x=some (v,us)):
  ∃r w',(Instr.next u tu ty).run E.P w= .ok r w'/\gV g f w v us new r g w':=by
 obtain ⟨hs,EB⟩:=aV fV;subst hs;obtain ⟨id,iI,ho2⟩:=aq EB;obtain ⟨p,hp,ho3⟩:=aq ho2;obtain ⟨q,hq,hid2⟩:=aq iI;obtain ⟨hz,hid3⟩:=aV hid2;cases hid3;have hz:=(beq_iff _ _).1 hz;obtain rfl:=od hq;have hf:=PB hp;cases hu with
 | @ptr _ _ b o hρ=>
  obtain ⟨hb,rfl,m1⟩:=h.at hf hρ;rw[hz];have mM:(getObj b).run E.P w= .ok (.stringIter p.1 p.2) w:=by simp[getObj,Sem.run,m1]
  have ho:some (xO q.1 p)=some (v,us):=ho3;unfold xO at ho;rw[bG] at ho;split at ho
  ·rename_i cV;have cV:p.2<p.1.size:=(bV _ _).1 cV;cases ho;obtain ⟨s1,s2⟩:=heap_set (o':=Obj.stringIter p.1 (p.2+(Utf8.decode p.1 p.2).2)) m1;obtain ⟨t1,t2⟩:=h.write (o':=.nA p.1 (p.2+(Utf8.decode p.1 p.2).2)) (w':={w with heap:=w.heap.setIfInBounds b (.stringIter p.1 (p.2+(Utf8.decode p.1 p.2).2))}) hf hρ (by simp) (λk hk=>s2 k hk) ⟨rfl,s1⟩ rfl rfl rfl
   refine ⟨.tuple #[.bool true,goInt p.2,.int .i32 (Utf8.decode p.1 p.2).1],{w with heap:=w.heap.setIfInBounds b (.stringIter p.1 (p.2+(Utf8.decode p.1 p.2).2))},?_,⟨?_,t1,t2,λ_ _=>rfl,λ_=>rfl⟩⟩
   ·simp only[mZ,Instr.next,Sem.run_bind,mM,Result.andThen_ok,aH cV];simp[setObj,Sem.run,m1]
   ·exact .cS (.cons (.bool true) (.cons (.int _ _ (by simp[SI.ev])) (.cons (.int _ _ (by simp[SI.ev])) .nil)))
  ·rename_i cV;have cV:¬p.2<p.1.size:=λe=>cV ((bV _ _).2 e)
   cases ho;refine ⟨.tuple #[.bool false],w,?_,gV.same h (.cS (.cons (.bool false) .nil))⟩;simp only[mZ,Instr.next,Sem.run_bind,mM,Result.andThen_ok,aM cV,Sem.run_pure]
def apB (hE:dV E g) (h:HR g f w) {i:TI} (hi:E.ty.get t=some i) {x z:SV} (hu:VR g u x) (fV:xQ i.desc x f=some z):∃r,(Builtin.len_ #[t] ty #[u]).run E.P w= .ok r w/\VR g r z:=by
 have hd:=(hE.ty t i hi).desc;have lit:∀n:Nat,VR g (goInt n) (uz n):=λn=>.int _ _ (by simp[SI.ev])
 generalize i.desc=D at hd fV;cases D with
 |string=>
  obtain ⟨s,hs,ho⟩:=aq (show az (strOf x) (λs=>some (uz s.size))=some z from fV)
  cases ho;obtain rfl:=mS hs;cases hu;exact ⟨goInt s.size,by simp[Builtin.len_,run_underlying (show E.P.underlying t=some .string from hd)],lit _⟩
 |slice e=>
  obtain ⟨n,hn,ho⟩:=aq (show az (U1 x) (λn=>some (uz n))=some z from fV)
  cases ho;have hd:E.P.underlying t=some (.slice e):=hd;rcases Wg hn with ⟨id,off,c,rfl⟩|⟨rfl,rfl⟩|⟨rfl,rfl⟩<;>cases hu<;>exact ⟨goInt _,by simp[Builtin.len_,run_underlying hd],lit _⟩
 |array n e=>
  cases (show some (uz n)=some z from fV);have hd:E.P.underlying t=some (.array n e):=hd;exact ⟨goInt n,by simp[Builtin.len_,run_underlying hd],lit _⟩
 |map k e=>
  have hd:E.P.underlying t=some (.map k e):=hd;cases hu with
  |mn=>
   cases (show some (uz 0)=some z from fV);exact ⟨goInt 0,by simp[Builtin.len_,run_underlying hd],lit _⟩
  | @mp id b o hρ=>
   obtain ⟨p,hp,ho⟩:=aq (show az (j1 (f id)) (λp=>some (uz p.1.length))=some z from fV)
   cases ho;obtain ⟨hb,ms,m1,m2⟩:=h.at (yJ hp) hρ;refine ⟨goInt ms.size,by simp[Builtin.len_,run_underlying hd,MapKept.run_getObj_map m1],?_⟩
   have:=m2.length;rw[<-this];exact lit _
  |_=>cases fV
 |_=>cases fV
def Wc (hE:dV E g) {x y z:SV} {v:Value} (hu:VR g u x) (hv:VR g v y) (fV:IL E mx x y=some z) (ts:Array TypeId) (ty:TypeId):
  ∃r,((if mx then Builtin.max_ ts ty #[u,v] else Builtin.min_ ts ty #[u,v])).run E.P w= .ok r w/\VR g r z:=by
 obtain ⟨a,b,h1,h2,ho⟩:=bp fV;obtain ⟨r,hr,ho⟩:=aq ho;cases ho;obtain rfl:=rH h1;obtain rfl:=rH h2;cases hu with|int _ _ e1=>cases hv with|int _ _ e2=>
 subst e1;subst e2;cases mx with
 |true=>
  have:=xP hE (show Cv E a.2 b.2=some r from hr);refine ⟨.int a.1 (if b.2.ev g.η>a.2.ev g.η then b.2.ev g.η else a.2.ev g.η),by simp[Builtin.max_,Builtin.max2],.int _ _ ?_⟩
  cases r with
  |true=>rw[aH (by simpa using this)]
  |false=>rw[aM (by simpa using this)]
 |false=>
  have:=xP hE (show Cv E b.2 a.2=some r from hr);refine ⟨.int a.1 (if b.2.ev g.η<a.2.ev g.η then b.2.ev g.η else a.2.ev g.η),by simp[Builtin.min_,Builtin.min2],.int _ _ ?_⟩
  cases r with
  |true=>rw[aH (by simpa using this)]
  |false=>rw[aM (by simpa using this)]
def yX {l:List J} {p:J×J} (h:uB l=some p):l= [p.1,p.2]:=by
 unfold uB at h;split at h
 ·cases h;rfl
 ·cases h
def aIM (P:Program) (o:Oper) (a:Act) (w:World) (v:Value) (w':World):Prop:=
 (execOp a.eval o).run P w= .ok (.value v) w'\/((execOp a.eval o).run P w= .ok .skip w'/\v=undef)
def IJ (h:VR g u (.int k (.lit (.ofNat n)))):u= .int k (.ofNat n):=by
 cases h with
 |int _ _ e=>rw[e];rfl
def NU {xs:Array J} {l:List J} (h:xs.toList=l):xs=l.toArray:=by apply uC;simpa using h
def DZ {us:fq} {x y:SV} (h:j6 g us [x,y]):∃u v,us= [u,v]/\VR g u x/\VR g v y:=by
 cases h with
 |cons h1 h=>cases h with
  |cons h2 h=>cases h;exact ⟨_,_,rfl,h1,h2⟩
def ayX {us:fq} {x:SV} (h:j6 g us [x]):∃u,us= [u]/\VR g u x:=by
 cases h with
 |cons h1 h=>cases h;exact ⟨_,rfl,h1⟩
def US (hE:dV E g) (h:HR g f w) {tm:Tf} (dY:FR g nt tm a.tmps) (hn:g.Z new=none) {args:Array Operand} {aa:aY} (has:fT tm args.toList=some aa) (ty:TypeId) (cs:Array Bool) {v:SV} {us:dN} (fV:rk E f new b aa ts.toList=some (v,us)):∃r w' g',(builtin b ts ty cs (args.map a.eval)).run E.P w= .ok (.value r) w'/\gV g f w v us new r g' w':=by
 have wA:=yD dY has;have qz:args.map a.eval=(args.toList.map a.eval).toArray:=NU (by simp)
 rw[qz];generalize args.toList.map a.eval=vs at wA;cases b with
 |len=>
  obtain ⟨x,t,h1,h2,ho⟩:=bp (show bU aa.head? ts.toList.head? (λx t=>aP (Nat.beq aa.length 1) (az (E.ty.get t) λi=>same (xQ i.desc x f)) none)=some (v,us) from fV)
  obtain ⟨hl,ho⟩:=aV ho;obtain ⟨i,hi,ho⟩:=aq ho;obtain ⟨z,hz,ho⟩:=aq ho;cases ho;have hl:=(beq_iff _ _).1 hl;obtain rfl:aa= [x]:=by
   cases aa with
   |nil=>simp at hl
   |cons y l=>simp at hl h1;simp[hl,h1]
  obtain ⟨u,rfl,hu⟩:=ayX wA;obtain ⟨r,r1,r2⟩:=apB (w:=w) (ty:=ty) hE h hi hu hz;refine ⟨r,w,g,?_,gV.same h r2⟩;have ht:ts[0]? =some t:=by
   rw[<-lx];cases mP:ts.toList with
   |nil=>rw[mP] at h2;simp at h2
   |cons t' l=>rw[mP] at h2;simpa using h2
  have hl1:(Builtin.len_ ts ty #[u]).run E.P w=(Builtin.len_ #[t] ty #[u]).run E.P w:=by simp only[Builtin.len_,ht];rfl
  simp only[builtin,Sem.run_bind];rw[hl1,r1];rfl
 |append=>
  obtain ⟨p,q,h1,h2,ho⟩:=bp (show bU (uB aa) (uB ts.toList) (λp q=>az (E.ty.get q.2) λi=>aP (Iw i.desc) (nK E f new q.1 p.1 p.2) none)=some (v,us) from fV)
  obtain ⟨i,hi,ho⟩:=aq ho;obtain ⟨hr,ho⟩:=aV ho;obtain rfl:=yX h1;obtain rfl:=NU (yX h2);obtain ⟨u1,u2,rfl,k1,k2⟩:=DZ wA;obtain ⟨r,w',g',r1,r2⟩:=acp (ty:=ty) hE h hn k1 k2 hi hr ho;exact ⟨r,w',g',by simp only[builtin,Sem.run_bind];rw[r1];rfl,r2⟩
 |min=>
  obtain ⟨p,h1,ho⟩:=aq (show az (uB aa) (λp=>same (IL E false p.1 p.2))=some (v,us) from fV)
  obtain ⟨z,hz,ho⟩:=aq ho;cases ho;obtain rfl:=yX h1;obtain ⟨u1,u2,rfl,k1,k2⟩:=DZ wA;obtain ⟨r,r1,r2⟩:=Wc (w:=w) hE k1 k2 hz ts ty;refine ⟨r,w,g,?_,gV.same h r2⟩;simp only[aC,aA] at r1;simp only[builtin,Sem.run_bind];rw[r1];rfl
 |max=>
  obtain ⟨p,h1,ho⟩:=aq (show az (uB aa) (λp=>same (IL E true p.1 p.2))=some (v,us) from fV)
  obtain ⟨z,hz,ho⟩:=aq ho;cases ho;obtain rfl:=yX h1;obtain ⟨u1,u2,rfl,k1,k2⟩:=DZ wA;obtain ⟨r,r1,r2⟩:=Wc (w:=w) hE k1 k2 hz ts ty;refine ⟨r,w,g,?_,gV.same h r2⟩;simp only[aB] at r1;simp only[builtin,Sem.run_bind];rw[r1];rfl
 |_=>cases fV
end
end Go.bZ
namespace Go.bZ
open Go.RowKit
variable {nt new i nx:Nat} {a:Act} {o:Oper} {x:Operand} {q:Nat×Nat} {t e:TypeId} {tu b:Bool} {xs:List Operand} {D:Nat->Bool} {r u:Value} {P:Program} {K KE:Ending->World->Prop} {w':World} {c:Call} {Q:Exit->Act->World->Prop}
section
variable {E:Env} {g:Gh} {f:Hf} {w:World}
def ato (hE:dV E g) (h:HR g f w) {tm:Tf} (dY:FR g nt tm a.tmps) (hn:g.Z new=none) {v:SV} {us:dN} (fV:qQ E o.op tm f new=some (v,us)):
  ∃r w' g',aIM E.P o a w r w'/\gV g f w v us new r g' w':=by
 obtain ⟨dst,op,ty,pos,after,guard⟩:=o;have val:=λ{x:Operand} {y:SV} (hx:cD tm x=some y)=>om (g:=g) dY hx
 cases op with
 |move x=>
  obtain ⟨y,hy,ho⟩:=aq (show az (cD tm x) (λv=>some (v,([]:dN)))=some (v,us) from fV)
  cases ho;exact ⟨_,w,g,.inl rfl,gV.same h (val hy)⟩
 |assign x=>
  obtain ⟨y,hy,ho⟩:=aq (show az (cD tm x) (λv=>some (v,([]:dN)))=some (v,us) from fV)
  cases ho;exact ⟨_,w,g,.inl rfl,gV.same h (val hy)⟩
 |pick c x y=>
  obtain ⟨cv,hc,ho⟩:=aq (show az (cD tm c) (λv=>az (oT v) λb=>one tm (aP b x y) λv=>some (v,([]:dN)))=some (v,us) from fV)
  obtain ⟨b,hb,ho⟩:=aq ho;obtain ⟨z,hz,ho⟩:=aq ho;cases ho;obtain rfl:=uO hb;have hcv:a.eval c= .bool b:=by have:=val hc;generalize a.eval c=q at this;cases this;rfl
  refine ⟨if b then a.eval x else a.eval y,w,g,.inl ?_,gV.same h ?_⟩
  ·simp only[execOp,hcv,asBool,Sem.run_bind,Sem.run_pure,Result.andThen_ok]
  ·cases b
   ·exact val hz
   ·exact val hz
 |alloc e=>
  obtain ⟨i,hi,ho⟩:=aq (show az (E.ty.get e) (λi=>some (SV.ptr new 0,[(new,some (SO.cells e i.zero))]))=some (v,us) from fV)
  cases ho;obtain ⟨z,z1,z2⟩:=ajh (hE.ty e i hi);refine ⟨.pointer (some ⟨w.heap.size,0,none⟩),_,_,.inl ?_,h.row hn (w0:=w) (w':=w.alloc (.cells z.cells e)) (l:=0) ⟨rfl,rfl,rfl,rfl⟩ rfl (z2 g) (λj v hv=>by simpa using hv) (qF _) (.ptr (o:=0) (off:=0) (Gh.jc _ _ _ _ _))⟩
  simp[execOp,Instr.alloc,z1,newVar,newRow]
 |box e x=>
  obtain ⟨y,hy,ho⟩:=aq (show az (cD tm x) (Xe new e)=some (v,us) from fV);obtain ⟨cs,hc,ho⟩:=aq ho;cases ho;refine ⟨.pointer (some ⟨w.heap.size,0,none⟩),_,_,.inl ?_,h.row hn (w0:=w) (w':=w.alloc (.cells (a.eval x).cells e)) (l:=0) ⟨rfl,rfl,rfl,rfl⟩ rfl ((val hy).jb hc) (λj v hv=>by simpa using hv) (qF _) (.ptr (o:=0) (off:=0) (Gh.jc _ _ _ _ _))⟩
  simp[execOp,Instr.box,newVar,newRow]
 |build t parts=>
  obtain ⟨gZ,hpc,ho⟩:=aq (show az (kr tm parts.toList) (λgZ=>same (EU E t gZ))=some (v,us) from fV)
  obtain ⟨x,hx,ho⟩:=aq ho;cases ho;obtain ⟨hl,hpt⟩:=Dk dY parts.toList gZ hpc;obtain ⟨r,r1,r2⟩:=afY hE (parts:=parts.map λ(i,x)=>(i,a.eval x)) hx (by simpa using hl) (λj i v i' xs h1 h2=>hpt j i v i' xs (by simpa using h1) h2) w
  exact ⟨r,w,g,.inl (by simp only[execOp,Sem.run_bind,r1,Result.andThen_ok,Sem.run_pure]),gV.same h r2⟩
 |buildSlice t len parts=>
  obtain ⟨gZ,hpc,ho⟩:=aq (show az (kr tm parts.toList) (λgZ=>tj E new t len gZ)=some (v,us) from fV)
  obtain ⟨r,w',g',r1,r2⟩:=MJ hE h hn dY hpc ho;exact ⟨r,w',g',.inl (by simp only[execOp,Sem.run_bind,r1,Result.andThen_ok,Sem.run_pure]),r2⟩
 |insert t m k x=>
  obtain ⟨y1,y2,h1,h2,ho⟩:=bp (show bU (cD tm m) (cD tm k) (λa b=>one tm x λc=>unit (vh E f t a b c))=some (v,us) from fV)
  obtain ⟨y3,h3,ho⟩:=aq ho;obtain ⟨us',hu,ho⟩:=aq ho;cases ho;obtain ⟨w',r1,r2,r3⟩:=VV hE h (val h1) (val h2) (val h3) hu;exact ⟨undef,w',g,.inr ⟨by simp only[execOp,Sem.run_bind,r1,Result.andThen_ok,Sem.run_pure],rfl⟩,⟨.cS .nil,r2,r3,λ_ _=>rfl,λ_=>rfl⟩⟩
 |mapUpdate t m k x=>
  obtain ⟨y1,y2,h1,h2,ho⟩:=bp (show bU (cD tm m) (cD tm k) (λa b=>one tm x λc=>unit (vh E f t a b c))=some (v,us) from fV)
  obtain ⟨y3,h3,ho⟩:=aq ho;obtain ⟨us',hu,ho⟩:=aq ho;cases ho;obtain ⟨w',r1,r2,r3⟩:=VV hE h (val h1) (val h2) (val h3) hu;exact ⟨undef,w',g,.inr ⟨by simp only[execOp,Sem.run_bind,r1,Result.andThen_ok,Sem.run_pure],rfl⟩,⟨.cS .nil,r2,r3,λ_ _=>rfl,λ_=>rfl⟩⟩
 |load t x=>
  obtain ⟨y,hy,ho⟩:=aq (show az (cD tm x) (λv=>same (oW E f t v))=some (v,us) from fV)
  obtain ⟨z,hz,ho⟩:=aq ho;cases ho;obtain ⟨r,r1,r2⟩:=Pw hE h (val hy) hz;exact ⟨r,w,g,.inl (by simp only[execOp,Sem.run_bind,r1,Result.andThen_ok,Sem.run_pure]),gV.same h r2⟩
 |store t x y=>
  obtain ⟨y1,y2,h1,h2,ho⟩:=bp (show bU (cD tm x) (cD tm y) (λa v=>unit (rX E f t v a))=some (v,us) from fV)
  obtain ⟨us',hu,ho⟩:=aq ho;cases ho;obtain ⟨w',r1,r2,r3⟩:=afu hE h (val h1) (val h2) hu;exact ⟨undef,w',g,.inr ⟨by simp only[execOp,Sem.run_bind,r1,Result.andThen_ok,Sem.run_pure],rfl⟩,⟨.cS .nil,r2,r3,λ_ _=>rfl,λ_=>rfl⟩⟩
 |nilCheck x=>
  obtain ⟨y,hy,ho⟩:=aq (show az (cD tm x) (λv=>same (Pm v))=some (v,us) from fV)
  obtain ⟨z,hz,ho⟩:=aq ho;cases ho;obtain ⟨rfl,hk⟩:=ako hz;have hv:=val hy;refine ⟨a.eval x,w,g,.inl ?_,gV.same h hv⟩;rcases hk with ⟨i,o,rfl⟩|⟨fn,c1,c2,rfl⟩<;>(generalize hq:a.eval x=q at hv;cases hv;simp only[execOp,hq,Sem.run_pure])
 |binOp op t x y yt=>
  obtain ⟨y1,y2,h1,h2,ho⟩:=bp (show bU (cD tm x) (cD tm y) (λv u=>same (JE E op t x y v u))=some (v,us) from fV)
  obtain ⟨z,hz,ho⟩:=aq ho;cases ho;obtain ⟨r,r1,r2⟩:=arw hE hz (val h1) (val h2) w;exact ⟨r,w,g,.inl (by simp only[execOp,Sem.run_bind] at r1 ⊢;rw[r1];rfl),gV.same h r2⟩
 |unOp op t x=>
  obtain ⟨y,hy,ho⟩:=aq (show az (cD tm x) (λv=>same (unA op v))=some (v,us) from fV)
  obtain ⟨z,hz,ho⟩:=aq ho;cases ho;obtain ⟨r,r1,r2⟩:=asA hz (val hy) (P:=E.P) w;exact ⟨r,w,g,.inl (by simp only[execOp,Sem.run_bind,r1,Result.andThen_ok,Sem.run_pure]),gV.same h r2⟩
 |convert s d x=>
  obtain ⟨y,hy,ho⟩:=aq (show az (cD tm x) (λv=>same (LJ E s d v))=some (v,us) from fV)
  obtain ⟨z,hz,ho⟩:=aq ho;cases ho;obtain ⟨r,r1,r2⟩:=alA hE hz (val hy) w;exact ⟨r,w,g,.inl (by simp only[execOp,Sem.run_bind,r1,Result.andThen_ok,Sem.run_pure]),gV.same h r2⟩
 |makeFunc fn first eG=>
  obtain ⟨jn,ho⟩:=aV (show aP (UU fn) (bU (fT tm first.toList) (fT tm eG.toList) λl m=>some (SV.fn fn l m,([]:dN))) none=some (v,us) from fV)
  obtain ⟨l,m,h1,h2,ho⟩:=bp ho;cases ho;cases fn with
  |func k=>
   refine ⟨.func (.func k) (first.map a.eval) (eG.map a.eval),w,g,.inl ?_,gV.same h (.fn ?_ ?_)⟩
   ·simp[execOp,Instr.makeFunc]
   ·simpa using yD dY h1
   ·simpa using yD dY h2
  |_=>cases jn
 |makeMap t r=>
  have mk:∀(hv:v= .mp new) (hu:us= [(new,some (.map [] 0))]),∃g',gV g f w v us new (.map (some w.heap.size)) g' (w.alloc (.map #[] 0)):=by
   rintro rfl rfl;obtain ⟨r1,r2⟩:=h.alloc hn (o':=.map [] 0) (w':=w.alloc (.map #[] 0)) (l:=0) (e:=0) rfl ⟨#[],heap_alloc_new w _,.nil⟩;exact ⟨_,.mp (o:=0) (Gh.jc _ _ _ _ _),r1,r2,λid cY=>Gh.lG _ _ _ _ cY,λxW=>by cases xW⟩
  cases r with
  |none=>
   cases (show some (SV.mp new,[(new,some (SO.map [] 0))])=some (v,us) from fV);obtain ⟨g',q⟩:=mk rfl rfl;refine ⟨_,_,g',.inl ?_,q⟩;simp[execOp,Instr.makeMap,newObj];rfl
  |some x=>
   obtain ⟨i,y,hi,hy,ho⟩:=bp (show bU (E.ty.get t) (cD tm x) (λi v=>bU (Bh i.desc) (kY v) λ_ _=>Po new)=some (v,us) from fV)
   obtain ⟨q,n,hq,I5,ho⟩:=bp ho;cases ho;obtain ⟨g',p⟩:=mk rfl rfl;obtain ⟨k,rfl⟩:=ub I5;have hx:=IJ (val hy);have ht:=(hE.ty t i hi).desc;rw[IP hq] at ht;have ht:E.P.underlying t=some (.map q.1 q.2):=ht;refine ⟨_,_,g',.inl ?_,p⟩;simp[execOp,Instr.makeMap,newObj,run_underlying ht,hx,asInt];rfl
 |makeSlice t l c=>
  obtain ⟨y1,y2,h1,h2,ho⟩:=bp (show bU (cD tm l) (cD tm c) (λu v=>bU (kY u) (kY v) (Be E new t))=some (v,us) from fV)
  obtain ⟨n1,n2,k1,k2,ho⟩:=bp ho;obtain ⟨q1,rfl⟩:=ub k1;obtain ⟨q2,rfl⟩:=ub k2;have e1:=IJ (val h1);have e2:=IJ (val h2);obtain ⟨r,w',g',r1,r2⟩:=afK (kl:=q1) (kc:=q2) hE h hn ho;exact ⟨r,w',g',.inl (by simp only[execOp,Sem.run_bind,e1,e2,r1,Result.andThen_ok,Sem.run_pure]),r2⟩
 |slice t x lo hi mx=>
  obtain ⟨y,hy,ho⟩:=aq (show az (cD tm x) (λv=>rP (j0 tm lo) (j0 tm hi) (j0 tm mx) λl u m=>same (A4 E t v l u m))=some (v,us) from fV)
  obtain ⟨l,u,m,h1,h2,h3,ho⟩:=pY ho;obtain ⟨z,hz,ho⟩:=aq ho;cases ho;obtain ⟨r,r1,r2⟩:=afz (w:=w) hE dY (val hy) h1 h2 h3 hz;exact ⟨r,w,g,.inl (by simp only[execOp,Sem.run_bind,r1,Result.andThen_ok,Sem.run_pure]),gV.same h r2⟩
 |fieldAddr s x k=>
  obtain ⟨y,hy,ho⟩:=aq (show az (cD tm x) (oo E s k)=some (v,us) from fV);obtain ⟨r,r1,r2⟩:=Nl (new:=new) hE h (val hy) ho;exact ⟨r,w,g,.inl (by simp only[execOp,Sem.run_bind,r1,Result.andThen_ok,Sem.run_pure]),r2⟩
 |field t x k=>
  obtain ⟨y,hy,ho⟩:=aq (show az (cD tm x) (xN E t k)=some (v,us) from fV);obtain ⟨r,r1,r2⟩:=aaF (new:=new) hE h (val hy) ho;exact ⟨r,w,g,.inl (by simp only[execOp,Sem.run_bind,r1,Result.andThen_ok,Sem.run_pure]),r2⟩
 |indexAddr t x ix=>
  obtain ⟨y1,y2,h1,h2,ho⟩:=bp (show bU (cD tm x) (cD tm ix) (λv u=>az (kY u) λk=>same (og E t v k))=some (v,us) from fV)
  obtain ⟨n,I5,ho⟩:=aq ho;obtain ⟨z,hz,ho⟩:=aq ho;cases ho;obtain ⟨q,rfl⟩:=ub I5;have e2:=IJ (val h2);obtain ⟨r,r1,r2⟩:=PI (w:=w) (kk:=q) hE (val h1) hz;exact ⟨r,w,g,.inl (by simp only[execOp,Sem.run_bind,e2,r1,Result.andThen_ok,Sem.run_pure]),gV.same h r2⟩
 |index t x ix=>
  obtain ⟨y1,y2,h1,h2,ho⟩:=bp (show bU (cD tm x) (cD tm ix) (λv u=>az (kY u) λk=>vM E t k v)=some (v,us) from fV)
  obtain ⟨n,I5,ho⟩:=aq ho;obtain ⟨q,rfl⟩:=ub I5;have e2:=IJ (val h2);obtain ⟨r,r1,r2⟩:=aaE (new:=new) (kk:=q) hE h (val h1) ho;exact ⟨r,w,g,.inl (by simp only[execOp,Sem.run_bind,e2,r1,Result.andThen_ok,Sem.run_pure]),r2⟩
 |lookup t x k ok=>
  obtain ⟨y1,y2,h1,h2,ho⟩:=bp (show bU (cD tm x) (cD tm k) (λa b=>same (sF E f t a b ok))=some (v,us) from fV)
  obtain ⟨z,hz,ho⟩:=aq ho;cases ho;obtain ⟨r,r1,r2⟩:=aaQ hE h (val h1) (val h2) hz;exact ⟨r,w,g,.inl (by simp only[execOp,Sem.run_bind,r1,Result.andThen_ok,Sem.run_pure]),gV.same h r2⟩
 |range t x=>
  obtain ⟨y,hy,ho⟩:=aq (show az (cD tm x) (vL E f new t)=some (v,us) from fV);obtain ⟨r,w',g',r1,r2⟩:=aaC hE h hn (val hy) ho;exact ⟨r,w',g',.inl (by simp only[execOp,Sem.run_bind,r1,Result.andThen_ok,Sem.run_pure]),r2⟩
 |next it tu=>
  obtain ⟨y,hy,ho⟩:=aq (show az (cD tm it) (yH f tu)=some (v,us) from fV);obtain ⟨r,w',r1,r2⟩:=afJ (new:=new) (ty:=ty) hE h (val hy) ho;exact ⟨r,w',g,.inl (by simp only[execOp,Sem.run_bind,r1,Result.andThen_ok,Sem.run_pure]),r2⟩
 |extract x i=>
  obtain ⟨y,hy,ho⟩:=aq (show az (cD tm x) (λv=>az (Oq v) λvs=>same (vs[i]?))=some (v,us) from fV)
  obtain ⟨vs,wA,ho⟩:=aq ho;obtain ⟨z,hz,ho⟩:=aq ho;cases ho;obtain rfl:=ajq wA;have hv:=val hy;generalize hq:a.eval x=q at hv;cases hv with
  |cS hr=>
   obtain ⟨u,u1,u2⟩:=hr.get hz;refine ⟨u,w,g,.inl ?_,gV.same h u2⟩;simp only[execOp,hq,Instr.extract];rw[lx] at u1;rw[u1];rfl
 |call c=>
  have ho:rZ E tm f new c=some (v,us):=fV;unfold rZ at ho;split at ho
  ·rename_i b hb;obtain ⟨aa,has,ho⟩:=aq ho;obtain ⟨r,w',g',r1,r2⟩:=US hE h dY hn (ts:=c.argTypes) has ty (c.args.map fun| .const _=>true|_=>false) ho
   refine ⟨r,w',g',.inl ?_,r2⟩;simp only[execOp,resolve,hb,Sem.run_bind,Sem.run_pure,Result.andThen_ok,invoke];exact r1
  ·cases ho
 |_=>cases fV
end
section
variable {E:Env} {g:Gh} {f f':Hf} {w:World} {T T':Tf}
def ajm (h:∀t,x= .tmp t->T t=T' t):cD T x=cD T' x:=by
 cases x with
 |tmp t=>exact h t rfl
 |_=>rfl
def v7:∀{xs:List Operand},(∀x∈xs,cD T x=cD T' x)->fT T xs=fT T' xs
 | [],_=>rfl
 |x::xs,h=>by
  show bU (cD T x) (fT T xs) _=bU (cD T' x) (fT T' xs) _;rw[h x (by simp),v7 λy hy=>h y (by simp[hy])]
def Bb:∀{ps:List (Nat×Operand)},(∀p∈ps,cD T p.2=cD T' p.2)->kr T ps=kr T' ps
 | [],_=>rfl
 |p::ps,h=>by
  show az (cD T p.2) (λv=>bU v.cells (kr T ps) _)=az (cD T' p.2) (λv=>bU v.cells (kr T' ps) _)
  rw[h p (by simp),Bb λq hq=>h q (by simp[hq])]
def Bc {x:Option Operand} (h:∀y,x=some y->cD T y=cD T' y):j0 T x=j0 T' x:=by
 cases x with
 |none=>rfl
 |some y=>
  show az (cD T y) _=az (cD T' y) _;rw[h y rfl]
def Nx {v:SV} (h:uX v=some q):q.1∈lP (some v):=by
 rw[od h];simp[lP]
def afQ {v:SV} (h:∀id∈lP (some v),f id=f' id):oW E f t v=oW E f' t v:=by
 unfold oW;cases hp:uX v with
 |none=>rfl
 |some q=>
  show az (E.ty.get t) (λi=>az (jb (f q.1) q.2 (wide i)) _)=az (E.ty.get t) (λi=>az (jb (f' q.1) q.2 (wide i)) _)
  rw[h _ (Nx hp)]
def YP {v a:SV} (h:∀id∈lP (some a),f id=f' id):rX E f t v a=rX E f' t v a:=by
 unfold rX;cases hp:uX a with
 |none=>rfl
 |some q=>
  show rP (E.ty.get t) v.cells (nk (f q.1)) _=rP (E.ty.get t) v.cells (nk (f' q.1)) _;rw[h _ (Nx hp)]
def abR {x:SV} (h:∀id∈lP (some x),f id=f' id):abS x f=abS x f':=by
 cases x<;>first|rfl|(rename_i id;show az (j1 (f id)) _=az (j1 (f' id)) _;rw[h id (by simp[lP])])
def W4 {x k:SV} {ok:Bool} (h:∀id∈lP (some x),f id=f' id):sF E f t x k ok=sF E f' t x k ok:=by
 unfold sF;rw[abR h]
def Oo {x k v:SV} (h:∀id∈lP (some x),f id=f' id):vh E f t x k v=vh E f' t x k v:=by
 unfold vh;cases hp:ats x with
 |none=>rfl
 |some id=>
  have:=Wb hp;subst this;show az (E.ty.get t) (λi=>az (Bh i.desc) λq=>bU (E.ty.get q.1) (j1 (f id)) _)=az (E.ty.get t) (λi=>az (Bh i.desc) λq=>bU (E.ty.get q.1) (j1 (f' id)) _)
  rw[h id (by simp[lP])]
def W3 {x:SV} (h:∀id∈lP (some x),f id=f' id):vL E f new t x=vL E f' new t x:=by
 have e:∀D:UD,O6 D x f=O6 D x f':=by
  intro D;cases D<;>first|rfl|skip
  cases x<;>first|rfl|(rename_i id;show az (j1 (f id)) _=az (j1 (f' id)) _;rw[h id (by simp[lP])])
 unfold vL;simp only[e]
def aaD {x:SV} (h:∀id∈lP (some x),f id=f' id):yH f tu x=yH f' tu x:=by
 unfold yH;cases hp:xm x with
 |none=>rfl
 |some id=>
  obtain ⟨q,h1,h2⟩:=aq hp;obtain ⟨_,h2⟩:=aV h2;cases h2;show aP tu (az (Ls (f q.1)) _) none=aP tu (az (Ls (f' q.1)) _) none;rw[h _ (Nx h1)]
def HO {id off n:Nat} (h:f id=f' id):mf f id off n=mf f' id off n:=by unfold mf;rw[h]
def afw {size:Nat} {x:SV} (h:∀id∈lP (some x),f id=f' id):uW f size x=uW f' size x:=by
 cases x<;>first
  |rfl
  |(
   rename_i id off n c
   have e:rowOf (.sl id off n c) f size=rowOf (.sl id off n c) f' size:=HO (h id (by simp[lP]))
   show AX f size (.sl id off n c)=AX f' size (.sl id off n c)
   unfold AX
   rw[e])
def aga {s:SV} {size m:Nat} {xs:aY} (h:∀id∈lP (some s),f id=f' id):vd s f new e size m xs=vd s f' new e size m xs:=by
 cases s<;>first
  |rfl
  |(
   rename_i id off n c
   show LR f new e size m xs id off n c=LR f' new e size m xs id off n c
   unfold LR
   rw[h id (by simp[lP]),HO (h id (by simp[lP]))])
def W7 {s x:SV} (h1:∀id∈lP (some s),f id=f' id) (h2:∀id∈lP (some x),f id=f' id):nK E f new t s x=nK E f' new t s x:=by
 unfold nK Vl;have e1:∀size,uW f size x=uW f' size x:=λsize=>afw h2
 have e2:∀e size m xs,vd s f new e size m xs=vd s f' new e size m xs:=λe size m xs=>aga h1
 simp only[e1,e2]
def akv {D:UD} {x:SV} (h:∀id∈lP (some x),f id=f' id):xQ D x f=xQ D x f':=by
 cases D<;>first
  |rfl
  |(
   show aty x f=aty x f'
   cases x<;>first|rfl|(rename_i id;show az (j1 (f id)) _=az (j1 (f' id)) _;rw[h id (by simp[lP])]))
def tp (hx:x∈xs) {id:Nat} (h:id∈lP (cD T x)):id∈oX T xs:=by
 induction xs with
 |nil=>simp at hx
 |cons y ys ih=>
  show id∈lP (cD T y)++oX T ys;rw[eO];rcases cH.1 hx with rfl|hx
  ·exact .inl h
  ·exact .inr (ih hx)
def abk:∀{xs:List Operand} {aa:aY},fT T xs=some aa->∀a∈aa,∀id∈lP (some a),id∈oX T xs
 | [],aa,h,a,ha,_,_=>by cases h;simp at ha
 |x::xs,aa,h,a,ha,id,iI=>by
  obtain ⟨v,l,h1,h2,h3⟩:=bp h;cases h3;show id∈lP (cD T x)++oX T xs;rw[eO];rcases cH.1 ha with rfl|ha
  ·rw[h1];exact .inl iI
  ·exact .inr (abk h2 a ha id iI)
def Wh:∀{xs:List Operand} {aa:aY},fT T xs=some aa->∀a∈aa,∀id∈idM (some a),id∈Gw T xs
 | [],aa,h,a,ha,id,iI=>by
  have h:some []=some aa:=h;cases h;cases ha
 |x::xs,aa,h,a,ha,id,iI=>by
  obtain ⟨v,l,h1,h2,h3⟩:=bp (show bU (cD T x) (fT T xs) (λv l=>some (v::l))=some aa from h)
  cases h3;show id∈idM (cD T x)++Gw T xs;rcases cH.1 ha with e|ha
  ·rw[h1,<-e];exact gB _ iI
  ·exact iq _ (Wh h2 a ha id iI)
def aER (b:Builtin):Bool:=match b with| .len=>true|_=>false
def afR {D:UD} {x:SV} (h:∀id∈idM (some x),f id=f' id):xQ D x f=xQ D x f':=by
 cases x<;>first|exact akv h|(cases D<;>rfl)
def apr {op:Op} (hT:∀x∈op.operands.toList,cD T x=cD T' x) (hf:∀id∈py op T,f id=f' id):qQ E op T f new=qQ E op T' f' new:=by
 have r7:∀(x:Operand) (k:SV->gm),x∈op.operands.toList->one T x k=one T' x k:=λx k hx=>by unfold one;rw[hT x hx]
 have H9:∀(x y:Operand) (k:SV->SV->gm),x∈op.operands.toList->y∈op.operands.toList->two T x y k=two T' x y k:=λx y k hx hy=>by unfold two;rw[hT x hx,hT y hy]
 have UT:∀(x:Operand) (k k':SV->gm),x∈op.operands.toList->(∀v,cD T x=some v->k v=k' v)->one T x k=one T' x k':=λx k k' hx hk=>by
  rw[<-r7 x k' hx];unfold one;cases hv:cD T x with
  |none=>rfl
  |some v=>exact hk v hv
 have ajp:∀(x y:Operand) (k k':SV->SV->gm),x∈op.operands.toList->y∈op.operands.toList->(∀v u,cD T x=some v->cD T y=some u->k v u=k' v u)->two T x y k=two T' x y k':=λx y k k' hx hy hk=>by
  rw[<-H9 x y k' hx hy];unfold two;cases hv:cD T x with
  |none=>rfl
  |some v=>
   cases hu:cD T y with
   |none=>rfl
   |some u=>exact hk v u hv hu
 cases op with
 |move x=>exact r7 x _ (by simp[Op.operands])
 |assign x=>exact r7 x _ (by simp[Op.operands])
 |pick c x y=>
  show az (cD T c) (λv=>az (oT v) λb=>one T (aP b x y) _)=az (cD T' c) (λv=>az (oT v) λb=>one T' (aP b x y) _)
  rw[hT c (by simp[Op.operands])]
  congr 1;funext v;congr 1;funext b;cases b
  ·exact r7 y _ (by simp[Op.operands])
  ·exact r7 x _ (by simp[Op.operands])
 |alloc e=>rfl
 |box e x=>exact r7 x _ (by simp[Op.operands])
 |build t ps=>
  show az (kr T ps.toList) _=az (kr T' ps.toList) _;rw[Bb λp hp=>hT p.2 (by simp[Op.operands];exact ⟨p.1,by simpa using hp⟩)]
 |buildSlice t n ps=>
  show az (kr T ps.toList) _=az (kr T' ps.toList) _;rw[Bb λp hp=>hT p.2 (by simp[Op.operands];exact ⟨p.1,by simpa using hp⟩)]
 |insert t m k x=>
  refine ajp m k _ _ (by simp[Op.operands]) (by simp[Op.operands]) λv u hv hu=>UT x _ _ (by simp[Op.operands]) λc hc=> ?_
  rw[Oo λid iI=>hf id (tp (xs:= [m,k,x]) (x:=m) (by simp) (by rw[hv];exact iI))]
 |mapUpdate t m k x=>
  refine ajp m k _ _ (by simp[Op.operands]) (by simp[Op.operands]) λv u hv hu=>UT x _ _ (by simp[Op.operands]) λc hc=> ?_
  rw[Oo λid iI=>hf id (tp (xs:= [m,k,x]) (x:=m) (by simp) (by rw[hv];exact iI))]
 |load t x=>
  refine UT x _ _ (by simp[Op.operands]) λv hv=> ?_
  rw[afQ λid iI=>hf id (tp (xs:= [x]) (x:=x) (by simp) (by rw[hv];exact iI))]
 |store t x y=>
  refine ajp x y _ _ (by simp[Op.operands]) (by simp[Op.operands]) λv u hv hu=> ?_
  rw[YP λid iI=>hf id (tp (xs:= [x,y]) (x:=x) (by simp) (by rw[hv];exact iI))]
 |nilCheck x=>exact r7 x _ (by simp[Op.operands])
 |binOp op t x y yt=>exact H9 x y _ (by simp[Op.operands]) (by simp[Op.operands])
 |unOp op t x=>exact r7 x _ (by simp[Op.operands])
 |convert s d x=>exact r7 x _ (by simp[Op.operands])
 |makeFunc fn a c=>
  show aP (UU fn) (bU (fT T a.toList) (fT T c.toList) _) none=aP (UU fn) (bU (fT T' a.toList) (fT T' c.toList) _) none;rw[v7 λx hx=>hT x (by simp[Op.operands];exact .inl (by simpa using hx)),v7 λx hx=>hT x (by simp[Op.operands];exact .inr (by simpa using hx))]
 |makeMap t r=>
  cases r with
  |none=>rfl
  |some x=>
   show bU (E.ty.get t) (cD T x) _=bU (E.ty.get t) (cD T' x) _;rw[hT x (by simp[Op.operands])]
 |makeSlice t l c=>exact H9 l c _ (by simp[Op.operands]) (by simp[Op.operands])
 |slice t x lo hi mx=>
  refine UT x _ _ (by simp[Op.operands]) λv hv=> ?_
  rw[Bc (x:=lo) λy hy=>hT y (by subst hy;simp[Op.operands]),Bc (x:=hi) λy hy=>hT y (by subst hy;simp[Op.operands]),Bc (x:=mx) λy hy=>hT y (by subst hy;simp[Op.operands])]
 |fieldAddr s x k=>exact r7 x _ (by simp[Op.operands])
 |field t x k=>exact r7 x _ (by simp[Op.operands])
 |indexAddr t x ix=>exact H9 x ix _ (by simp[Op.operands]) (by simp[Op.operands])
 |index t x ix=>exact H9 x ix _ (by simp[Op.operands]) (by simp[Op.operands])
 |lookup t x k ok=>
  refine ajp x k _ _ (by simp[Op.operands]) (by simp[Op.operands]) λv u hv hu=> ?_
  rw[W4 λid iI=>hf id (tp (xs:= [x,k]) (x:=x) (by simp) (by rw[hv];exact iI))]
 |range t x=>
  refine UT x _ _ (by simp[Op.operands]) λv hv=> ?_
  exact W3 λid iI=>hf id (tp (xs:= [x]) (x:=x) (by simp) (by rw[hv];exact iI))
 |next it tu=>
  refine UT it _ _ (by simp[Op.operands]) λv hv=> ?_
  exact aaD λid iI=>hf id (tp (xs:= [it]) (x:=it) (by simp) (by rw[hv];exact iI))
 |extract x i=>exact r7 x _ (by simp[Op.operands])
 |call c=>
  show rZ E T f new c=rZ E T' f' new c;unfold rZ;split
  ·rename_i b hb;have ev:fT T c.args.toList=fT T' c.args.toList:=v7 λx hx=>hT x (by simp[Op.operands,Call.operands,hb];simpa using hx)
   rw[<-ev];cases hv:fT T c.args.toList with
   |none=>rfl
   |some aa=>
    have hid0:uI c=false->∀a∈aa,∀id∈lP (some a),f id=f' id:=λhl a ha id h=>hf id (by
     show id∈aP (uI c) (Gw T c.args.toList) (oX T c.args.toList);rw[hl];exact abk hv a ha id h)
    have hidM:uI c=true->∀a∈aa,∀id∈idM (some a),f id=f' id:=λhl a ha id h=>hf id (by
     show id∈aP (uI c) (Gw T c.args.toList) (oX T c.args.toList);rw[hl];exact Wh hv a ha id h)
    have lenC:uI c=aER b:=by unfold uI;rw[hb];cases b<;>rfl
    show rk E f new b aa _=rk E f' new b aa _;have e1:uI c=false->∀t p,uB aa=some p->nK E f new t p.1 p.2=nK E f' new t p.1 p.2:=λhl t p h1=>by
     have iI:=hid0 hl;have hp:=yX h1;exact W7 (iI p.1 (by rw[hp];simp)) (iI p.2 (by rw[hp];simp))
    have e3:uI c=true->∀D x,aa.head? =some x->xQ D x f=xQ D x f':=λhl D x h1=>afR (hidM hl x (List.mem_of_head? h1))
    unfold rk;cases b<;>(first|(have e1:=e1 lenC)|(have e3:=e3 lenC))<;>first
     |rfl
     |(
      simp only
      generalize hq:uB aa=q at e1
      cases q with
      |none=>rfl
      |some p=>simp only[bU,e1 _ p rfl])
     |(
      simp only
      generalize hq:aa.head? =q at e3
      cases q with
      |none=>rfl
      |some p=>simp only[bU,e3 _ p rfl])
  ·rfl
 |_=>rfl
end
section
variable {E:Env} {g:Gh} {f:Hf} {w:World}
variable {d nx':Nat} {K':Ending->World->Prop}
def ot (ro:bP):Fence:={fn:=λ_=>True,depth:=none,alive:=false,round:=ro}
def jg (T:Tf) (d:bP) (v:SV):Tf:=λt=>if d=some t then some v else T t
def ti (tm:de) (d:bP) (v:SV):(iU tm d v).get=jg tm.get d v:=by
 cases d with
 |none=>funext t;simp[iU,jg]
 |some d=>
  funext t;show (tm.set d (some v)).get t=_;rw[Tr.pB];simp only[jg,Kp];by_cases h:t=d
  ·subst h;simp
  ·rw[aM h,aM (λe=>h e.symm)]
def auV (h:kZ nt (some d)=true):d<nt:=(bV _ _).1 h
def FR.put {T:Tf} (h:FR g nt T a.tmps) {d:bP} (hd:kZ nt d=true) {v:SV} (hv:VR g r v):FR g nt (jg T d v) (a.put d r).tmps:=by
 cases d with
 |none=>
  refine ⟨h.sz,λt x hx=>h.tm t x ?_⟩
  simpa[jg] using hx
 |some d=>
  have cV:=auV hd;refine ⟨by simpa[Act.put] using h.sz,λt x hx=> ?_⟩
  simp only[jg,Kp] at hx;show VR g ((a.tmps.setIfInBounds d r).getD t undef) x;simp only[ma,YC];split at hx
  ·rename_i e;subst e;obtain rfl:v=x:=by simpa using hx
   have:d<a.tmps.size:=by rw[h.sz];exact cV
   simpa[this] using hv
  ·rename_i e;rw[aM e];have:=h.tm t x hx;simpa[ma] using this
def put_defers (a:Act) (d:bP) (r:Value):(a.put d r).defers=a.defers:=by cases d<;>rfl
def Co:∀(l:dd) (j:Nat),II l j=(l[j]?).bind (·.dst)
 | [],j=>by simp;rfl
 |o::l,0=>rfl
 |o::l,j+1=>by
  show II l j=_;rw[Co l j];simp
def yg {T:Tf} (h:FR g nt T a.tmps) {all:dE} (hw:gq all.toList o T=some b):Region.wanted o (yielded all a.tmps)=b:=by
 unfold gq at hw;unfold Region.wanted;cases hg:o.guard with
 |none=>rw[hg] at hw;cases hw;rfl
 |some p=>
  obtain ⟨j,want⟩:=p;rw[hg] at hw;have hw:vB all.toList T j want=some b:=hw;unfold vB at hw;rw[Co,lx] at hw;simp only[yielded];cases hd:(all[j]?).bind (·.dst) with
  |none=>
   rw[hd] at hw;cases hw;simp
  |some t=>
   rw[hd] at hw;obtain ⟨x,hx,hw⟩:=aq (show az (T t) (ajl want)=some b from hw);have hv:=h.tm t x hx;simp only[au];rw[ma] at hv;cases ht:a.tmps[t]? with
   |none=>
    rw[ht] at hv;simp only[Kk] at hv;have hu:(undef:Value)= .tuple #[]:=rfl;rw[hu] at hv;cases hv with
    |cS _=>cases hw;rfl
    |undef _=>cases hw
   |some u=>
    rw[ht] at hv;simp only[xn] at hv;cases hv<;>first
     |(cases hw;rfl)
     |(rename_i c;cases hw;cases c<;>cases want<;>rfl)
     |cases hw
def kP (D:Nat->Bool) (H f:Hf):Hf:=λx=>if D x=true then H x else f x
def ve (E:Env) (ro:bP) (nt:Nat) (all:dE) (i:Nat) (o:Oper) (T:Tf) (need:Nat->Prop) (H:Hf) (frp newp:Nat->Prop) (v:SV) (D:Nat->Bool) (H':Hf):Prop:=
 ∀(m:Nat) (g:Gh) (f:Hf) (T1:Tf) (a:Act) (w:World) (K:Act->World->Prop) (Q:Exit->Act->World->Prop),dV E g->FR g nt T1 a.tmps->HR g f w->(∀t∈o.looksAt all,T1 t=T t)->(∀x,need x->f x=H x)->(∀x,frp x->g.Z x=none)->
  (∀r w' g',FR g' nt (jg T1 o.dst v) (a.put o.dst r).tmps->HR g' (kP D H' f) w'->Fr g f w g' (kP D H' f) w'->(∀x,¬newp x->g'.Z x=g.Z x)->K (a.put o.dst r) w')->
  wpOpIn (ot ro) m E.P all Q i K a w
def HG {all:dE} {T T1:Tf} (h:∀t∈o.looksAt all,T1 t=T t):∀x∈o.op.operands.toList,cD T1 x=cD T x:=λx hx=>ajm λt ht=>h t (by
 subst ht;exact gB _ (List.mem_filterMap.2 ⟨.tmp t,hx,rfl⟩))
def zf {all:dE} {T T1:Tf} (h:∀t∈o.looksAt all,T1 t=T t):gq all.toList o T1=gq all.toList o T:=by
 unfold gq;cases hg:o.guard with
 |none=>rfl
 |some p=>
  show vB all.toList T1 p.1 p.2=vB all.toList T p.1 p.2;unfold vB;rw[Co,lx];cases hd:(all[p.1]?).bind (·.dst) with
  |none=>rfl
  |some t=>
   show az (T1 t) _=az (T t) _;rw[h t (by simp[Oper.looksAt,hg,hd])]
def AS:∀(us:dN) (H f:Hf) (x:Nat),gx f us x=if x∈us.map (·.1) then gx H us x else f x
 | [],H,f,x=>by simp[gx]
 |u::us,H,f,x=>by
  show gx (jk f u) us x=if x∈(u::us).map (·.1) then gx (jk H u) us x else f x
  rw[AS us (jk H u) (jk f u) x];by_cases h1:x∈us.map (·.1)
  ·rw[aH h1,aH (by simp at h1 ⊢;exact .inr h1)]
  ·rw[aM h1];by_cases h2:x=u.1
   ·rw[aH (by simp[h2])]
    rw[AS us (jk f u) (jk H u) x,aM h1];simp[jk,h2]
   ·rw[aM (by simp at h1 ⊢;exact ⟨h2,h1⟩)]
    simp[jk,h2]
def Ao {ro:bP} (P:Program) (w:World):∀k,o.about P w a.eval=some k->(ot ro).fn k:=λ_ _=>trivial
def Dg {ro:bP} {all:dE} {T:Tf} {H:Hf} {v:SV} {us:dN} (hi:all[i]? =some o) (hw:gq all.toList o T=some true) (hd:kZ nt o.dst=true) (ho:qQ E o.op T H new=some (v,us)) (hH:H new=none) (hD:∀x,D x=true↔(x∈us.map (·.1)\/x=new)) (xe:∀c,o.op≠ .defer c):
  ve E ro nt all i o T (λx=>x∈py o.op T) H (λx=>x=new) (λx=>x=new/\us≠ []) v D (gx H us):=by
 intro m g f T1 a w K Q hE dY hr hT Lw l6 hk;have e1:qQ E o.op T1 f new=some (v,us):=by
  rw[<-ho];refine (apr (λx hx=>(HG hT x hx).symm) (λid iI=>(Lw id iI).symm)).symm
 have hn:=l6 new rfl;obtain ⟨r,w',g',ln,hp⟩:=ato hE hr dY hn e1;have Br:gx f us=kP D (gx H us) f:=by
  funext x;unfold kP;rw[AS us H f x];by_cases h1:x∈us.map (·.1)
  ·rw[aH h1,aH ((hD x).2 (.inl h1))]
  ·rw[aM h1];by_cases h2:x=new
   ·rw[aH ((hD x).2 (.inr h2)),AS us f H x,aM h1,h2,hH,hr.Ei hn]
   ·rw[aM (λh=>by rcases (hD x).1 h with h|h;exact h1 h;exact h2 h)]
 have hkk:=hk r w' g' ((dY.mono hp.fr.le).put hd hp.val) (Br ▸ hp.hr) (Br ▸ hp.fr) (λx hx=>by
  by_cases hu:us= []
  ·rw[hp.nil hu]
  ·exact hp.ro x (λhe=>hx ⟨he,hu⟩))
 unfold wpOpIn;rw[hi];simp only;rw[aH (yg dY (by rw[zf hT];exact hw))]
 refine ⟨Ao E.P w,?_⟩;rw[Oper.semAt_eq _ _ _ xe];rcases ln with h1|⟨h1,rfl⟩
 ·rw[h1];exact hkk
 ·rw[h1];exact hkk
def step_skip {ro:bP} {all:dE} {T:Tf} {H:Hf} (hi:all[i]? =some o) (hw:gq all.toList o T=some false) (hd:kZ nt o.dst=true) (hH:H new=none) (hD:∀x,D x=true↔x=new):
  ve E ro nt all i o T (λ_=>False) H (λx=>x=new) (λ_=>False) (.cS []) D H:=by
 intro m g f T1 a w K Q hE dY hr hT Lw l6 hk;have hn:=l6 new rfl;have Br:f=kP D H f:=by
  funext x;unfold kP;by_cases h2:x=new
  ·rw[aH ((hD x).2 h2),h2,hH,hr.Ei hn]
  ·rw[aM (λh=>h2 ((hD x).1 h))]
 have hkk:=hk undef w g (dY.put hd (.cS .nil)) (Br ▸ hr) (Br ▸ Fr.refl g f w) (λ_ _=>rfl)
 unfold wpOpIn;rw[hi];simp only;have hwn:=yg dY (by rw[zf hT];exact hw)
 rw[aM (by rw[hwn];simp)]
 exact ⟨Ao E.P w,hkk⟩
def Mq (P : Program) (m : Nat) (u : Value) (us : hY) (w : World) (K : Ending -> World -> Prop) : Prop :=
  ∃ d, (Deferred.ofValue u us).run P w = .ok d w /\
    ((∃ k aa, (invoke d.target d.args).run P w = .ok (.enter k aa) w /\ CallsIn Fence.wide m P k aa w K) \/
     (∃ l k tmps aa bo, (invoke d.target d.args).run P w = .ok (.round l k tmps aa bo) w /\ RoundIn Fence.wide m P l k tmps aa bo w K) \/
     (∃ r w', (invoke d.target d.args).run P w = .ok (.value r) w' /\ K (.returned r) w'))
def Mq.mono {m:Nat} {us:hY} {w:World} (h:Mq P m u us w K) (hk:∀e w',K e w'->K' e w'):Mq P m u us w K':=by
 obtain ⟨d,h1,h2⟩:=h;refine ⟨d,h1,?_⟩;rcases h2 with ⟨k,aa,q1,q2⟩|⟨l,k,t,aa,bo,q1,q2⟩|⟨r,w',q1,q2⟩
 ·exact .inl ⟨k,aa,q1,CallsIn.mono q2 hk⟩
 ·exact .inr (.inl ⟨l,k,t,aa,bo,q1,RoundIn.mono q2 hk⟩)
 ·exact .inr (.inr ⟨r,w',q1,hk _ _ q2⟩)
def P4 (fR:Bool) (u:Value):Ending:=if fR=true then .panicked [{v:=u,recovered:=false}] else .returned u
def Qp (g:Gh) (H:Hf) (w:World) (nx:Nat) (r:Rs) (e:Ending) (w':World):Prop:=
 ∃u g',e=P4 r.fR u/\VR g' u r.v/\HR g' r.h.hp.get w'/\Fr g H w g' r.h.hp.get w'/\(∀x,x<nx->g'.Z x=g.Z x)/\∀x,r.h.nx<=x->g'.Z x=none
def yf (E:Env) (fv:SV) (aa:aY) (H:Hf) (nx:Nat) (l:List Rs):Prop:=
 ∀(m:Nat) (g:Gh) (w:World) (u:Value) (us:fq),dV E g->HR g H w->(∀x,nx<=x->g.Z x=none)->VR g u fv->j6 g us aa->
  Mq E.P m u us.toArray w λe w'=>∃r∈l,Qp g H w nx r e w'
def oA (E:Env) (fR:Bool) (fv:SV) (aa:aY) (H:Hf) (nx:Nat) (v:SV) (H':Hf) (nx':Nat):Prop:=
 ∀(m:Nat) (g:Gh) (w:World) (u:Value) (us:fq),dV E g->HR g H w->(∀x,nx<=x->g.Z x=none)->VR g u fv->j6 g us aa->
  Mq E.P m u us.toArray w λe w'=>∃r,e=P4 fR r/\∃g',VR g' r v/\HR g' H' w'/\Fr g H w g' H' w'/\(∀x,x<nx->g'.Z x=g.Z x)/\∀x,nx'<=x->g'.Z x=none
def yf.one {fv:SV} {aa:aY} {H:Hf} {r:Rs} (h:yf E fv aa H nx [r]):oA E r.fR fv aa H nx r.v r.h.hp.get r.h.nx:=
 λm g w u us hE hr eQ hu jG=>(h m g w u us hE hr eQ hu jG).mono λe w' ⟨r',hm,u',g',q1,q2,q3,q4,q5,q6⟩=>by
  obtain rfl:=ez.1 hm;exact ⟨u',q1,g',q2,q3,q4,q5,q6⟩
def ala {H H':Hf} {g':Gh} (hr:HR g f w) (Dr:∀x o,H x=some o->f x=some o) (Jb:∀x,nx<=x->g.Z x=none) (jA:HR g' H' w') (hf:Fr g H w g' H' w') (ij:∀x,x<nx->g'.Z x=g.Z x) (hD:∀x,D x=false->x<nx->H' x=H x) (hD2:∀x,D x=false->nx<=x->H' x=none):HR g' (kP D H' f) w'/\Fr g f w g' (kP D H' f) w':=by
 have sY:∀x,nx<=x->f x=none:=λx hx=>hr.Ei (Jb x hx)
 have other:∀x o,D x=false->f x=some o->H x=none->∃b c,g.Z x=some (b,c)/\b<w.heap.size/\OR g w x b c o/\¬ams g H b:=by
  intro x o hd hx hn;obtain ⟨b,c,q1,q2,q3⟩:=hr.ob x o hx;refine ⟨b,c,q1,q2,q3,λ⟨id,o',c',h1,h2⟩=> ?_⟩
  have:=hr.inj id x o' o b c' c (Dr id o' h1) hx h2 q1;subst this;rw[hn] at h1;simp at h1
 have Lm:∀x o,f x=some o->x<nx:=λx o hx=>by
  by_cases h:nx<=x
  ·rw[sY x h] at hx;simp at hx
  ·omega
 have cls:∀x o,kP D H' f x=some o->H' x=some o\/(D x=false/\f x=some o/\H x=none):=by
  intro x o hx;unfold kP at hx;split at hx
  ·exact .inl hx
  ·rename_i hd;have hd:D x=false:=by simpa using hd
   cases hh:H x with
   |none=>exact .inr ⟨hd,hx,rfl⟩
   |some o'=>
    have:=Dr x o' hh;rw[hx] at this;cases this;exact .inl ((hD x hd (Lm x o hx)).trans hh)
 refine ⟨⟨λx o hx=> ?_,λi j x y b c d hx hy e1 e2=> ?_⟩,⟨hf.os,hf.tape,hf.output,hf.size,hf.le,λb hb hn=>hf.old b hb (λ⟨id,o,c,h1,h2⟩=>hn ⟨id,o,c,Dr id o h1,h2⟩),λb hb hm=> ?_⟩⟩
 ·rcases cls x o hx with h1|⟨h1,h2,h3⟩
  ·exact jA.ob x o h1
  ·obtain ⟨b,c,q1,q2,q3,q4⟩:=other x o h1 h2 h3;exact ⟨b,c,(ij x (Lm x o h2)).trans q1,my q2 hf.size,q3.mono hf.le q1 (hf.old b q2 q4)⟩
 ·have ayw:∀p q z z' b c d,H' p=some z->D q=false->f q=some z'->H q=none->g'.Z p=some (b,c)->g'.Z q=some (b,d)->False:=by
   intro p q z z' b c d h1 h2 h3 h4 e1 e2;obtain ⟨b',c',q1,q2,q3,q4⟩:=other q z' h2 h3 h4;rw[ij q (Lm q z' h3),q1] at e2;cases e2;exact q4 (hf.own _ q2 ⟨p,z,c,h1,e1⟩)
  rcases cls i x hx with h1|⟨h1,h2,h3⟩<;>rcases cls j y hy with k1|⟨k1,k2,k3⟩
  ·exact jA.inj i j x y b c d h1 k1 e1 e2
  ·exact (ayw i j x y b c d h1 k1 k2 k3 e1 e2).elim
  ·exact (ayw j i y x b d c k1 h1 h2 h3 e2 e1).elim
  ·rw[ij i (Lm i x h2)] at e1;rw[ij j (Lm j y k2)] at e2;exact hr.inj i j x y b c d h2 k2 e1 e2
 ·obtain ⟨x,o,c,hx,e⟩:=hm;rcases cls x o hx with h1|⟨h1,h2,h3⟩
  ·obtain ⟨id,o',c',q1,q2⟩:=hf.own b hb ⟨x,o,c,h1,e⟩;exact ⟨id,o',c',Dr id o' q1,q2⟩
  ·rw[ij x (Lm x o h2)] at e;exact ⟨x,o,c,h2,e⟩
def ahB {ro:bP} {all:dE} {T T1:Tf} {H:Hf} {fv:SV} {aa:aY} {nx m:Nat} {K:Act->World->Prop} (hi:all[i]? =some o) (hw:gq all.toList o T=some true) (eP:o.op= .call c) (hc:sI T c.callee=some fv) (has:fT T c.args.toList=some aa) (dY:FR g nt T1 a.tmps) (hT:∀t∈o.looksAt all,T1 t=T t) (hs:∀(u:Value) (us:fq),VR g u fv->j6 g us aa->Mq E.P (m-1) u us.toArray w KE) (hk:∀e w',KE e w'->∃fR r,e=P4 fR r/\(fR=false->K (a.put o.dst r) w')/\(fR=true->Q (.panic [{v:=r,recovered:=false}]) a w')):
  wpOpIn (ot ro) m E.P all Q i K a w:=by
 obtain ⟨x,hx⟩:∃x,c.callee= .value x:=by
  cases xj:c.callee with
  |value x=>exact ⟨x,rfl⟩
  |_=>rw[xj] at hc;cases hc
 have aud:=HG hT;rw[eP] at aud;have hfv:cD T1 x=some fv:=by
  rw[aud x (by simp[Op.operands,Call.operands,hx])]
  rw[hx] at hc;exact hc
 have hva:fT T1 c.args.toList=some aa:=by
  rw[<-has];exact v7 λy hy=>aud y (by simp[Op.operands,Call.operands,hx];exact .inr (by simpa using hy))
 have hu:=om dY hfv;have jG:=yD dY hva;obtain ⟨d,xh,HL⟩:=hs (a.eval x) (c.args.toList.map a.eval) hu jG;have fA:(resolve a.eval c o.type).run E.P w= .ok d w:=by
  simp only[resolve,hx];have:c.args.map a.eval=(c.args.toList.map a.eval).toArray:=NU (by simp)
  rw[this];exact xh
 have fin:∀e w',KE e w'->(match e,w' with
   | .returned v,H5=>K (a.put o.dst v) H5
   | .panicked chain,H5=>Q (.panic chain) a H5
   | .outgrown,_=>LetsOut Q):=by
  intro e w' he;obtain ⟨fR,r,rfl,h1,h2⟩:=hk e w' he;cases fR with
  |false=>exact h1 rfl
  |true=>exact h2 rfl
 unfold wpOpIn;rw[hi];simp only;rw[aH (yg dY (by rw[zf hT];exact hw))]
 refine ⟨Ao E.P w,?_⟩;rw[Oper.semAt_eq _ _ _ (λc' h=>by rw[eP] at h;cases h)]
 have hex:(execOp a.eval o).run E.P w=(invoke d.target d.args).run E.P w:=by
  simp only[execOp,eP,Sem.run_bind,fA,Result.andThen_ok]
 rw[hex];rcases HL with ⟨k,JF,h1,h2⟩|⟨l,k,tmps,JF,bo,h1,h2⟩|⟨r,w',h1,h2⟩
 ·rw[h1];refine ⟨λh=>by simp[ot] at h,?_⟩
  refine CallsIn.mono (F:=ot ro) (show CallsIn (ot ro) (m-1) E.P k JF w _ from h2) ?_;intro e w' he;have:=fin e w' he;cases e<;>exact this
 ·rw[h1];refine ⟨λh=>by simp[ot] at h,?_⟩
  refine RoundIn.mono (F:=ot ro) (show RoundIn (ot ro) (m-1) E.P l k tmps JF bo w _ from h2) ?_;intro e w' he;have:=fin e w' he;cases e<;>exact this
 ·rw[h1];exact fin _ w' h2
def VY {ro:bP} {all:dE} {T:Tf} {H H':Hf} {fv v:SV} {aa:aY} (hi:all[i]? =some o) (hw:gq all.toList o T=some true) (hd:kZ nt o.dst=true) (eP:o.op= .call c) (hc:sI T c.callee=some fv) (has:fT T c.args.toList=some aa) (hs:oA E false fv aa H nx v H' nx') (hD:∀x,D x=false->x<nx->H' x=H x) (hD2:∀x,D x=false->nx<=x->H' x=none):
  ve E ro nt all i o T (λx=>H x≠none) H (λx=>nx<=x) (λx=>nx<=x/\x<nx') v D H':=by
 intro m g f T1 a w K Q hE dY hr hT Lw l6 hk;have Dr:∀x y,H x=some y->f x=some y:=λx y hx=>by rw[Lw x (by show H x≠none;rw[hx];simp),hx]
 have hr0:HR g H w:=hr.sub Dr;refine ahB (g:=g) (H:=H) (nx:=nx) hi hw eP hc has dY hT (λu us hu jG=>hs (m-1) g w u us hE hr0 (λy hy=>l6 y hy) hu jG) ?_
 rintro e w' ⟨r,rfl,g',h1,h2,h3,h4,h5⟩;refine ⟨false,r,rfl,λ_=> ?_,λh=>by cases h⟩
 obtain ⟨q1,q2⟩:=ala hr Dr (λy hy=>l6 y hy) h2 h3 h4 hD hD2
 exact hk r w' g' ((dY.mono h3.le).put hd h1) q1 q2 (λx hx=>by
  by_cases hl:x<nx
  ·exact h4 x hl
  ·rw[h5 x (by omega),l6 x (by show nx<=x;omega)])
end
end Go.bZ
end
