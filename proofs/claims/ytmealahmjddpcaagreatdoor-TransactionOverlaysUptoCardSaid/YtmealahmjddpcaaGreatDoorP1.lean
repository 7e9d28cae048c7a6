/- Texts that belong together. The first: A machine over trees of slots and a heap of numbered blocks, that the kernel can run. Definitions. -/
import Derived.WalkKit
import Derived.RangeFuncLeaves
import Derived.OrdersIn
import Derived.WalkLawsBesides
import Derived.Great.BuildSlice
import Derived.Deep.AppendSrc
import Derived.Laws.CopyRow
import Derived.Laws.AppendOwn
import Derived.Great.FillDense
set_option linter.all false
noncomputable section
namespace Go.Sim
inductive SI where
 |lit (n:Int)
 |var (i:Nat)
 |add (k:IntKind) (a b:SI)
 |sub (k:IntKind) (a b:SI)
 |conv (k:IntKind) (a:SI)
 deriving Inhabited
def SI.ev (η:Nat->Int):SI->Int
 | .lit n=>n
 | .var i=>η i
 | .add k a b=>k.wrap (a.ev η+b.ev η)
 | .sub k a b=>k.wrap (a.ev η - b.ev η)
 | .conv k a=>k.wrap (a.ev η)
def ct:IntKind->IntKind->Bool
 | .i8,.i8| .i16,.i16| .i32,.i32| .i64,.i64| .u8,.u8| .u16,.u16| .u32,.u32| .u64,.u64=>true
 |_,_=>false
def uc:Int->Int->Bool
 | .ofNat a,.ofNat b=>Nat.beq a b
 | .negSucc a,.negSucc b=>Nat.beq a b
 |_,_=>false
def ml:Int->Int->Bool
 | .ofNat a,.ofNat b=>Nat.ble (a+1) b
 | .negSucc _,.ofNat _=>true
 | .ofNat _,.negSucc _=>false
 | .negSucc a,.negSucc b=>Nat.ble (b+1) a
def SI.eqb:SI->SI->Bool
 | .lit a,.lit b=>uc a b
 | .var a,.var b=>Nat.beq a b
 | .add k a b,.add k' a' b'=>ct k k'&&(a.eqb a'&&b.eqb b')
 | .sub k a b,.sub k' a' b'=>ct k k'&&(a.eqb a'&&b.eqb b')
 | .conv k a,.conv k' a'=>ct k k'&&a.eqb a'
 |_,_=>false
inductive Cp where
 |k (n:Nat)
 |u (e:TypeId)
 deriving Inhabited
inductive SV where
 |bool (b:Bool)
 |int (k:IntKind) (e:SI)
 |str (s:ByteArray)
 |ptr (id off:Nat)
 |cU
 |sl (id off n:Nat) (cap:Cp)
 |sle
 |aU
 |mp (id:Nat)
 |cV
 |fn (f:Fn) (first dE:List SV)
 |yld (id:Nat)
 |dt
 |ifc (t:TypeId) (v:SV)
 |cW
 |agg (cs:List SV)
 |tup (vs:List SV)
 |undef
 deriving Inhabited
inductive Tr (α:Type) where
 |nil
 |node (l:Tr α) (v:Option α) (r:Tr α)
 deriving Inhabited
@[reducible] def sel {α:Type} (b:Bool) (x y:α):α:= @Bool.rec (fun _=>α) y x b
def Tr.get {α:Type} (t:Tr α):Nat->Option α:=
 @Tr.rec α (fun _=>Nat->Option α) (fun _=>none) (fun _ v _ gl gr i=> @Bool.rec (fun _=>Option α) (@Bool.rec (fun _=>Option α) (gr (Nat.sub (Nat.div i 2) 1)) (gl (Nat.div i 2)) (Nat.beq (Nat.mod i 2) 1)) v (Nat.beq i 0)) t
def Tr.vH {α:Type} (n:Nat):Tr α->Nat->Option α->Tr α:=
 @Nat.rec (fun _=>Tr α->Nat->Option α->Tr α) (fun t _ _=>t) (fun _ ih t i x=>
  @Tr.rec α (fun _=>Tr α)
   (@Bool.rec (fun _=>Tr α) (@Bool.rec (fun _=>Tr α) (.node .nil none (ih .nil (Nat.sub (Nat.div i 2) 1) x)) (.node (ih .nil (Nat.div i 2) x) none .nil) (Nat.beq (Nat.mod i 2) 1)) (.node .nil x .nil) (Nat.beq i 0))
   (fun l v r _ _=> @Bool.rec (fun _=>Tr α) (@Bool.rec (fun _=>Tr α) (.node l v (ih r (Nat.sub (Nat.div i 2) 1) x)) (.node (ih l (Nat.div i 2) x) v r) (Nat.beq (Nat.mod i 2) 1)) (.node l x r) (Nat.beq i 0)) t) n
def Tr.set {α:Type} (t:Tr α) (i:Nat) (x:Option α):Tr α:=Tr.vH (Nat.succ i) t i x
inductive SO where
 |cells (e:TypeId) (cs:List SV)
 |map (es:List (SV×SV×Nat)) (clock:Nat)
 |ia (s:ByteArray) (pos:Nat)
 |mapIter (map:Option Nat) (since:Nat) (seen:List Nat) (amz:Nat)
 |loop (nt:Nat) (tm:Tr SV) (params:List Nat) (assign body:Code) (state:LoopState) (pending:Option Code) (dfr:Nat)
 |dfr
 |ro (cs:List SV)
 deriving Inhabited
structure FL where
 type:TypeId
 off:Nat
 named:Bool
inductive UD where
 |bool|int (k:IntKind)|string|pointer|slice (e:TypeId)|array (n:Nat) (e:TypeId)|map (k e:TypeId)|struct (fs:List FL)|func|interface|other
 deriving Inhabited
structure TI where
 desc:UD
 size:Nat
 bytes:Nat
 zero:List SV
 comparable:Bool
 deriving Inhabited
structure Env where
 P:Program
 ty:Tr TI
 fn:Tr Func
 lt:List (SI×SI×Bool)
 eq:List (SI×SI×Bool)
 done:List (Nat×SV):= []
 join:List Nat:= []
 Qc:List (Nat×Nat):= []
 DM:List Nat:= []
 stop:List Nat:= []
def look (a b:SI):List (SI×SI×Bool)->Option Bool
 | []=>none
 |(x,y,r)::l=>sel (x.eqb a&&y.eqb b) (some r) (look a b l)
def ltS (E:Env) (a b:SI):Option Bool:=look a b E.lt
def ltI (E:Env):SI->SI->Option Bool
 | .lit a,.lit b=>some (ml a b)
 |a,b=>ltS E a b
def eqS (E:Env) (a b:SI):Option Bool:=sel (a.eqb b) (some true) (look a b E.eq)
def eqI (E:Env):SI->SI->Option Bool
 | .lit x,.lit y=>some (uc x y)
 |a,b=>eqS E a b
def cG {α:Type} (P:Program):Sem α->Option α
 | .pure a=>some a
 | .program k=>cG P (k P)
 |_=>none
mutual
def kB:Value->SV
 | .bool b=>.bool b
 | .int k n=>.int k (.lit n)
 | .string s=>.str s
 | .pointer none=>.cU
 | .slice none 0 0=>.aU
 | .map none=>.cV
 | .nilFunc=>.dt
 | .nilIface=>.cW
 | .agg ⟨cs⟩=>sel (cs.all Value.oneCell') (.agg (g4 cs)) .undef
 | .tuple ⟨cs⟩=>.tup (g4 cs)
 |_=>.undef
def g4:List Value->List SV
 | []=> []
 |v::vs=>kB v::g4 vs
end
abbrev Hp:=Tr SO
abbrev Hf:=Nat->Option SO
abbrev Up:=Nat×Option SO
structure Hs where
 hp:Hp
 nx:Nat
 lg:List Nat
 deriving Inhabited
abbrev Tf:=Nat->Option SV
def aM (tm:Tf):Operand->Option SV
 | .tmp t=>tm t
 | .const v=>some (kB v)
 | .global _=>none
 | .func f=>some (.fn (.func f) [] [])
def SV.cells (x:SV):Option (List SV):= @SV.rec (fun _=>Option (List SV)) (fun _=>PUnit) (fun b=>some [.bool b]) (fun k e=>some [.int k e]) (fun s=>some [.str s]) (fun i o=>some [.ptr i o]) (some [.cU]) (fun a b c d=>some [.sl a b c d]) (some [.sle]) (some [.aU]) (fun i=>some [.mp i]) (some [.cV]) (fun f a c _ _=>some [.fn f a c]) (fun i=>some [.yld i]) (some [.dt]) (fun t v _=>some [.ifc t v]) (some [.cW]) (fun cs _=>some cs) (fun _ _=>none) (none) PUnit.unit (fun _ _ _ _=>PUnit.unit) x
def eG (d:UD):Bool:= @UD.rec (fun _=>Bool) (false) (fun _=>false) (false) (false) (fun _=>false) (fun _ _=>true) (fun _ _=>false) (fun _=>true) (false) (false) (false) d
def YK:SI->Option Nat
 | .lit (.ofNat n)=>some n
 |_=>none
def Yi (x:SV):Option (Nat×Nat×Nat×Cp):= @SV.rec (fun _=>Option (Nat×Nat×Nat×Cp)) (fun _=>PUnit) (fun _=>none) (fun _ _=>none) (fun _=>none) (fun _ _=>none) (none) (fun i o n c=>some (i,o,n,c)) (none) (none) (fun _=>none) (none) (fun _ _ _ _ _=>none) (fun _=>none) (none) (fun _ _ _=>none) (none) (fun _ _=>none) (fun _ _=>none) (none) PUnit.unit (fun _ _ _ _=>PUnit.unit) x
def eW (x:SV):Option Nat:= @SV.rec (fun _=>Option Nat) (fun _=>PUnit) (fun _=>none) (fun _ e=>YK e) (fun _=>none) (fun _ _=>none) (none) (fun _ _ _ _=>none) (none) (none) (fun _=>none) (none) (fun _ _ _ _ _=>none) (fun _=>none) (none) (fun _ _ _=>none) (none) (fun _ _=>none) (fun _ _=>none) (none) PUnit.unit (fun _ _ _ _=>PUnit.unit) x
def g6 (x:SV):Option Bool:= @SV.rec (fun _=>Option Bool) (fun _=>PUnit) (fun b=>some b) (fun _ _=>none) (fun _=>none) (fun _ _=>none) (none) (fun _ _ _ _=>none) (none) (none) (fun _=>none) (none) (fun _ _ _ _ _=>none) (fun _=>none) (none) (fun _ _ _=>none) (none) (fun _ _=>none) (fun _ _=>none) (none) PUnit.unit (fun _ _ _ _=>PUnit.unit) x
def intOf (x:SV):Option (IntKind×SI):= @SV.rec (fun _=>Option (IntKind×SI)) (fun _=>PUnit) (fun _=>none) (fun k e=>some (k,e)) (fun _=>none) (fun _ _=>none) (none) (fun _ _ _ _=>none) (none) (none) (fun _=>none) (none) (fun _ _ _ _ _=>none) (fun _=>none) (none) (fun _ _ _=>none) (none) (fun _ _=>none) (fun _ _=>none) (none) PUnit.unit (fun _ _ _ _=>PUnit.unit) x
def strOf (x:SV):Option ByteArray:= @SV.rec (fun _=>Option ByteArray) (fun _=>PUnit) (fun _=>none) (fun _ _=>none) (fun s=>some s) (fun _ _=>none) (none) (fun _ _ _ _=>none) (none) (none) (fun _=>none) (none) (fun _ _ _ _ _=>none) (fun _=>none) (none) (fun _ _ _=>none) (none) (fun _ _=>none) (fun _ _=>none) (none) PUnit.unit (fun _ _ _ _=>PUnit.unit) x
def ld (x:SV):Option (Nat×Nat):= @SV.rec (fun _=>Option (Nat×Nat)) (fun _=>PUnit) (fun _=>none) (fun _ _=>none) (fun _=>none) (fun i o=>some (i,o)) (none) (fun _ _ _ _=>none) (none) (none) (fun _=>none) (none) (fun _ _ _ _ _=>none) (fun _=>none) (none) (fun _ _ _=>none) (none) (fun _ _=>none) (fun _ _=>none) (none) PUnit.unit (fun _ _ _ _=>PUnit.unit) x
def uT (x:SV):Option (List SV):= @SV.rec (fun _=>Option (List SV)) (fun _=>PUnit) (fun _=>none) (fun _ _=>none) (fun _=>none) (fun _ _=>none) (none) (fun _ _ _ _=>none) (none) (none) (fun _=>none) (none) (fun _ _ _ _ _=>none) (fun _=>none) (none) (fun _ _ _=>none) (none) (fun cs _=>some cs) (fun _ _=>none) (none) PUnit.unit (fun _ _ _ _=>PUnit.unit) x
def AA (x:SV):Option (List SV):= @SV.rec (fun _=>Option (List SV)) (fun _=>PUnit) (fun _=>none) (fun _ _=>none) (fun _=>none) (fun _ _=>none) (none) (fun _ _ _ _=>none) (none) (none) (fun _=>none) (none) (fun _ _ _ _ _=>none) (fun _=>none) (none) (fun _ _ _=>none) (none) (fun _ _=>none) (fun cs _=>some cs) (none) PUnit.unit (fun _ _ _ _=>PUnit.unit) x
def YM (x:SV):Option Nat:= @SV.rec (fun _=>Option Nat) (fun _=>PUnit) (fun _=>none) (fun _ _=>none) (fun _=>none) (fun _ _=>none) (none) (fun _ _ _ _=>none) (none) (none) (fun i=>some i) (none) (fun _ _ _ _ _=>none) (fun _=>none) (none) (fun _ _ _=>none) (none) (fun _ _=>none) (fun _ _=>none) (none) PUnit.unit (fun _ _ _ _=>PUnit.unit) x
def oq (x:SV):Option Nat:= @SV.rec (fun _=>Option Nat) (fun _=>PUnit) (fun _=>none) (fun _ _=>none) (fun _=>none) (fun _ _=>none) (none) (fun _ _ n _=>some n) (some 0) (some 0) (fun _=>none) (none) (fun _ _ _ _ _=>none) (fun _=>none) (none) (fun _ _ _=>none) (none) (fun _ _=>none) (fun _ _=>none) (none) PUnit.unit (fun _ _ _ _=>PUnit.unit) x
def DY (x:SV):Bool:= @SV.rec (fun _=>Bool) (fun _=>PUnit) (fun _=>false) (fun _ _=>false) (fun _=>false) (fun _ _=>false) (false) (fun _ _ _ _=>true) (true) (true) (fun _=>false) (false) (fun _ _ _ _ _=>false) (fun _=>false) (false) (fun _ _ _=>false) (false) (fun _ _=>false) (fun _ _=>false) (false) PUnit.unit (fun _ _ _ _=>PUnit.unit) x
def Bj (x:SV):Option SV:= @SV.rec (fun _=>Option SV) (fun _=>PUnit) (fun _=>none) (fun _ _=>none) (fun _=>none) (fun i o=>some (.ptr i o)) (none) (fun _ _ _ _=>none) (none) (none) (fun _=>none) (none) (fun f a c _ _=>some (.fn f a c)) (fun l=>some (.yld l)) (none) (fun _ _ _=>none) (none) (fun _ _=>none) (fun _ _=>none) (none) PUnit.unit (fun _ _ _ _=>PUnit.unit) x
def cO (i:TI) (cs:List SV) (off:Nat):Option SV:=
 sel (eG i.desc) (sel (Nat.ble (Nat.add off i.size) cs.length) (some (.agg ((cs.drop off).take i.size))) none) (cs[off]?)
def bF (cs:List SV) (off:Nat) (xs:List SV):List SV:=cs.take off++xs++cs.drop (Nat.add off xs.length)
def aj {α γ:Type} (x:Option α) (f:α->Option γ):Option γ:= @Option.rec α (fun _=>Option γ) none f x
def aG {α β γ:Type} (x:Option α) (y:Option β) (f:α->β->Option γ):Option γ:= @Option.rec α (fun _=>Option γ) none (fun a=> @Option.rec β (fun _=>Option γ) none (f a) y) x
def pb {α β δ γ:Type} (x:Option α) (y:Option β) (z:Option δ) (f:α->β->δ->Option γ):Option γ:=aj x fun a=>aG y z fun b c=>f a b c
def andThen (r:Option Bool) (k:Option Bool):Option Bool:=
 match r with
 |some true=>k
 |r=>r
def uG (E:Env) (eq:TypeId->SV->SV->Option Bool) (xs ys:List SV):List FL->Option Bool
 | []=>some true
 |f::fs=>sel f.named (aj (E.ty.get f.type) fun i=>aG (cO i xs f.off) (cO i ys f.off) fun x y=>andThen (eq f.type x y) (uG E eq xs ys fs)) none
def Xg (x y:SV):Option Bool:=aG (g6 x) (g6 y) fun a b=>some (a==b)
def aiK (E:Env) (x y:SV):Option Bool:=aG (intOf x) (intOf y) fun a b=>sel (ct a.1 b.1) (eqI E a.2 b.2) none
def jG:List UInt8->List UInt8->Bool
 | [],[]=>true
 |a::l,b::m=>Nat.beq a.toNat b.toNat&&jG l m
 |_,_=>false
def pT (a b:ByteArray):Bool:=jG a.data.toList b.data.toList
def eqStr (x y:SV):Option Bool:=aG (strOf x) (strOf y) fun a b=>some (pT a b)
def Gn:SV->SV->Option Bool
 | .cU,.cU=>some true
 | .cU,.ptr _ _=>some false
 | .ptr _ _,.cU=>some false
 |_,_=>none
def El:SV->SV->Option Bool
 | .aU,.aU=>some true
 | .aU,.sl _ _ _ _=>some false
 | .sl _ _ _ _,.aU=>some false
 |_,_=>none
def Gp:SV->SV->Option Bool
 | .cV,.cV=>some true
 | .cV,.mp _=>some false
 | .mp _,.cV=>some false
 |_,_=>none
def RY:SV->SV->Option Bool
 | .dt,.dt=>some true
 | .dt,.fn _ _ _=>some false
 | .fn _ _ _,.dt=>some false
 |_,_=>none
def Gq (E:Env) (eq:TypeId->SV->SV->Option Bool):SV->SV->Option Bool
 | .cW,.cW=>some true
 | .cW,.ifc _ _=>some false
 | .ifc _ _,.cW=>some false
 | .ifc t1 v1,.ifc t2 v2=>sel (Nat.beq t1 t2) (aj (E.ty.get t1) fun i1=>sel i1.comparable (eq t1 v1 v2) none) (some false)
 |_,_=>none
def Xz (x y:SV):Option (List SV×List SV):=aG (uT x) (uT y) fun xs ys=>some (xs,ys)
def ZN (E:Env) (eq:TypeId->SV->SV->Option Bool) (t:TypeId) (fs:List FL) (x y:SV):Option Bool:=aj (Xz x y) fun p=>sel (E.P.stoodInHeld t) none (uG E eq p.1 p.2 fs)
def eqD (d:UD):Env->(TypeId->SV->SV->Option Bool)->TypeId->SV->SV->Option Bool:= @UD.rec (fun _=>Env->(TypeId->SV->SV->Option Bool)->TypeId->SV->SV->Option Bool) (fun _ _ _ x y=>Xg x y) (fun _=>fun E _ _ x y=>aiK E x y) (fun _ _ _ x y=>eqStr x y) (fun _ _ _ x y=>Gn x y) (fun _=>fun _ _ _ x y=>El x y) (fun _ _=>fun _ _ _ _ _=>none) (fun _ _=>fun _ _ _ x y=>Gp x y) (fun fs=>fun E eq t x y=>ZN E eq t fs x y) (fun _ _ _ x y=>RY x y) (fun E eq _ x y=>Gq E eq x y) (fun _ _ _ _ _=>none) d
def eqT (E:Env) (n:Nat):TypeId->SV->SV->Option Bool:=
 @Nat.rec (fun _=>TypeId->SV->SV->Option Bool) (fun _ _ _=>none) (fun _ eq t x y=>aj (E.ty.get t) fun i=>eqD i.desc E eq t x y) n
def isConst:Operand->Bool
 | .const _=>true
 |_=>false
def ZO (E:Env) (t:TypeId) (ox oy:Operand) (x:SV):Bool:=
 match x with
 | .cW=>isConst ox||isConst oy
 | .agg _=> !E.P.eqGuardType E.P.depth t
 |_=>true
def uF (E:Env) (t:TypeId) (ox oy:Operand) (x y:SV):Option Bool:=sel (ZO E t ox oy x) (eqT E 20 t x y) none
def eK (neg:Bool) (r:Option Bool):Option SV:=aj r fun b=>some (.bool (sel neg (!b) b))
def fQ (r:Option Value):Option SV:=aj r fun v=>some (kB v)
def lj (E:Env) (op:BinOp) (t:TypeId) (k k':IntKind):SI->SI->Option SV
 | .lit m,.lit n=>fQ (cG E.P (binOp op t (.int k m) (.int k' n)))
 |_,_=>none
def Mm (k:IntKind):SI->SI->SI
 | .lit m,.lit n=>.lit (k.wrap (m+n))
 |a,b=>.add k a b
def zD (k:IntKind):SI->SI->SI
 | .lit m,.lit n=>.lit (k.wrap (m-n))
 |a,b=>.sub k a b
def Gd (o:BinOp):Env->BinOp->TypeId->IntKind->IntKind->SI->SI->Option SV:= @BinOp.rec (fun _=>Env->BinOp->TypeId->IntKind->IntKind->SI->SI->Option SV) (fun _ _ _ k k2 a b=>sel (ct k k2) (some (.int k (Mm k a b))) none) (fun _ _ _ k k2 a b=>sel (ct k k2) (some (.int k (zD k a b))) none) (fun E op t k k2 a b=>lj E op t k k2 a b) (fun E op t k k2 a b=>lj E op t k k2 a b) (fun E op t k k2 a b=>lj E op t k k2 a b) (fun E op t k k2 a b=>lj E op t k k2 a b) (fun E op t k k2 a b=>lj E op t k k2 a b) (fun E op t k k2 a b=>lj E op t k k2 a b) (fun E op t k k2 a b=>lj E op t k k2 a b) (fun E op t k k2 a b=>lj E op t k k2 a b) (fun E op t k k2 a b=>lj E op t k k2 a b) (fun E _ _ k k2 a b=>sel (ct k k2) (eK false (eqI E a b)) none) (fun E _ _ k k2 a b=>sel (ct k k2) (eK true (eqI E a b)) none) (fun E _ _ k k2 a b=>sel (ct k k2) (eK false (ltI E a b)) none) (fun E _ _ k k2 a b=>sel (ct k k2) (eK true (ltI E b a)) none) (fun E _ _ k k2 a b=>sel (ct k k2) (eK false (ltI E b a)) none) (fun E _ _ k k2 a b=>sel (ct k k2) (eK true (ltI E a b)) none) o
def Qg (o:BinOp):Env->BinOp->TypeId->ByteArray->ByteArray->Option SV:= @BinOp.rec (fun _=>Env->BinOp->TypeId->ByteArray->ByteArray->Option SV) (fun E op t a b=>fQ (cG E.P (binOp op t (.string a) (.string b)))) (fun E op t a b=>fQ (cG E.P (binOp op t (.string a) (.string b)))) (fun E op t a b=>fQ (cG E.P (binOp op t (.string a) (.string b)))) (fun E op t a b=>fQ (cG E.P (binOp op t (.string a) (.string b)))) (fun E op t a b=>fQ (cG E.P (binOp op t (.string a) (.string b)))) (fun E op t a b=>fQ (cG E.P (binOp op t (.string a) (.string b)))) (fun E op t a b=>fQ (cG E.P (binOp op t (.string a) (.string b)))) (fun E op t a b=>fQ (cG E.P (binOp op t (.string a) (.string b)))) (fun E op t a b=>fQ (cG E.P (binOp op t (.string a) (.string b)))) (fun E op t a b=>fQ (cG E.P (binOp op t (.string a) (.string b)))) (fun E op t a b=>fQ (cG E.P (binOp op t (.string a) (.string b)))) (fun _ _ _ a b=>some (.bool (pT a b))) (fun _ _ _ a b=>some (.bool (!pT a b))) (fun E op t a b=>fQ (cG E.P (binOp op t (.string a) (.string b)))) (fun E op t a b=>fQ (cG E.P (binOp op t (.string a) (.string b)))) (fun E op t a b=>fQ (cG E.P (binOp op t (.string a) (.string b)))) (fun E op t a b=>fQ (cG E.P (binOp op t (.string a) (.string b)))) o
def eD (o:BinOp):Env->TypeId->Operand->Operand->SV->SV->Option SV:= @BinOp.rec (fun _=>Env->TypeId->Operand->Operand->SV->SV->Option SV) (fun _ _ _ _ _ _=>none) (fun _ _ _ _ _ _=>none) (fun _ _ _ _ _ _=>none) (fun _ _ _ _ _ _=>none) (fun _ _ _ _ _ _=>none) (fun _ _ _ _ _ _=>none) (fun _ _ _ _ _ _=>none) (fun _ _ _ _ _ _=>none) (fun _ _ _ _ _ _=>none) (fun _ _ _ _ _ _=>none) (fun _ _ _ _ _ _=>none) (fun E t ox oy x y=>eK false (uF E t ox oy x y)) (fun E t ox oy x y=>eK true (uF E t ox oy x y)) (fun _ _ _ _ _ _=>none) (fun _ _ _ _ _ _=>none) (fun _ _ _ _ _ _=>none) (fun _ _ _ _ _ _=>none) o
def Mb (E:Env) (op:BinOp) (t:TypeId) (k:IntKind) (a:SI) (y:SV):Option SV:=aj (intOf y) fun p=>Gd op E op t k p.1 a p.2
def Xp (E:Env) (op:BinOp) (t:TypeId) (a:ByteArray) (y:SV):Option SV:=aj (strOf y) fun b=>Qg op E op t a b
def Z9 (x:SV):Env->BinOp->TypeId->Operand->Operand->SV->SV->Option SV:= @SV.rec (fun _=>Env->BinOp->TypeId->Operand->Operand->SV->SV->Option SV) (fun _=>PUnit) (fun _=>fun E op t ox oy x y=>eD op E t ox oy x y) (fun k a=>fun E op t _ _ _ y=>Mb E op t k a y) (fun a=>fun E op t _ _ _ y=>Xp E op t a y) (fun _ _=>fun E op t ox oy x y=>eD op E t ox oy x y) (fun E op t ox oy x y=>eD op E t ox oy x y) (fun _ _ _ _=>fun E op t ox oy x y=>eD op E t ox oy x y) (fun E op t ox oy x y=>eD op E t ox oy x y) (fun E op t ox oy x y=>eD op E t ox oy x y) (fun _=>fun E op t ox oy x y=>eD op E t ox oy x y) (fun E op t ox oy x y=>eD op E t ox oy x y) (fun _ _ _ _ _=>fun E op t ox oy x y=>eD op E t ox oy x y) (fun _=>fun E op t ox oy x y=>eD op E t ox oy x y) (fun E op t ox oy x y=>eD op E t ox oy x y) (fun _ _ _=>fun E op t ox oy x y=>eD op E t ox oy x y) (fun E op t ox oy x y=>eD op E t ox oy x y) (fun _ _=>fun E op t ox oy x y=>eD op E t ox oy x y) (fun _ _=>fun E op t ox oy x y=>eD op E t ox oy x y) (fun E op t ox oy x y=>eD op E t ox oy x y) PUnit.unit (fun _ _ _ _=>PUnit.unit) x
def sq (E:Env) (op:BinOp) (t:TypeId) (ox oy:Operand) (x y:SV):Option SV:=Z9 x E op t ox oy x y
def Gw (k:IntKind):SI->SI
 | .lit n=>.lit (k.wrap n)
 |e=>.conv k e
def Gx (d:UD):SV->Option SV:= @UD.rec (fun _=>SV->Option SV) (fun _=>none) (fun k=>fun x=>aj (intOf x) fun p=>some (.int k (Gw k p.2))) (fun x=>aj (strOf x) fun s=>some (.str s)) (fun _=>none) (fun _=>fun _=>none) (fun _ _=>fun _=>none) (fun _ _=>fun _=>none) (fun _=>fun _=>none) (fun _=>none) (fun _=>none) (fun _=>none) d
def B1 (E:Env) (src dst:TypeId) (x:SV):Option SV:=aG (E.ty.get src) (E.ty.get dst) fun _ i=>Gx i.desc x
def BB:UnOp->Bool
 | .not=>true
 |_=>false
def isNeg:UnOp->Bool
 | .neg=>true
 |_=>false
def unV (x:SV):UnOp->Option SV:= @SV.rec (fun _=>UnOp->Option SV) (fun _=>PUnit) (fun b=>fun op=>sel (BB op) (some (.bool (!b))) none) (fun k e=>fun op=>sel (isNeg op) (some (.int k (zD k (.lit 0) e))) none) (fun _=>fun _=>none) (fun _ _=>fun _=>none) (fun _=>none) (fun _ _ _ _=>fun _=>none) (fun _=>none) (fun _=>none) (fun _=>fun _=>none) (fun _=>none) (fun _ _ _ _ _=>fun _=>none) (fun _=>fun _=>none) (fun _=>none) (fun _ _ _=>fun _=>none) (fun _=>none) (fun _ _=>fun _=>none) (fun _ _=>fun _=>none) (fun _=>none) PUnit.unit (fun _ _ _ _=>PUnit.unit) x
def unA (op:UnOp) (x:SV):Option SV:=unV x op
def fR (place:Nat->Option (Nat×Nat)) (cs:List SV):List (Nat×List SV)->Option (List SV)
 | []=>some cs
 |p::rest=>aj (place p.1) fun q=>sel (Nat.beq p.2.length q.2&&Nat.ble (Nat.add q.1 q.2) cs.length) (fR place (bF cs q.1 p.2) rest) none
def ea (tm:Tf):List (Nat×Operand)->Option (List (Nat×List SV))
 | []=>some []
 |p::rest=>aj (aM tm p.2) fun v=>aG v.cells (ea tm rest) fun cs l=>some ((p.1,cs)::l)
def rep (z:List SV):Nat->List SV
 |0=> []
 |n+1=>z++rep z n
def A7 (E:Env) (fs:List FL) (j:Nat):Option (Nat×Nat):=aj (fs[j]?) fun f=>aj (E.ty.get f.type) fun fi=>some (f.off,fi.size)
def jb (size:Nat) (j:Nat):Option (Nat×Nat):=some (Nat.mul j size,size)
def wW (r:Option (List SV)):Option SV:=aj r fun cs=>some (.agg cs)
def Xn (d:UD):Env->List SV->List (Nat×List SV)->Option SV:= @UD.rec (fun _=>Env->List SV->List (Nat×List SV)->Option SV) (fun _ _ _=>none) (fun _=>fun _ _ _=>none) (fun _ _ _=>none) (fun _ _ _=>none) (fun _=>fun _ _ _=>none) (fun _ e=>fun E z pcs=>aj (E.ty.get e) fun ie=>wW (fR (jb ie.size) z pcs)) (fun _ _=>fun _ _ _=>none) (fun fs=>fun E z pcs=>wW (fR (A7 E fs) z pcs)) (fun _ _ _=>none) (fun _ _ _=>none) (fun _ _ _=>none) d
def oa (E:Env) (t:TypeId) (pcs:List (Nat×List SV)):Option SV:=aj (E.ty.get t) fun i=>Xn i.desc E i.zero pcs
def Hs.up (h:Hs) (u:Up):Hs:=⟨h.hp.set u.1 u.2,h.nx,u.1::h.lg⟩
def Hs.ups (h:Hs) (us:List Up):Hs:= @List.rec Up (fun _=>Hs->Hs) (fun h=>h) (fun u _ ih h=>ih (h.up u)) us h
def Hs.put (h:Hs) (id:Nat) (o:SO):Hs:=h.up (id,some o)
def Hs.bump (h:Hs):Hs:=⟨h.hp,Nat.add h.nx 1,h.lg⟩
def Hs.fin (h:Hs) (us:List Up):Hs:= @List.rec Up (fun _=>Hs) h (fun _ _ _=>(h.ups us).bump) us
def jF:Option SO->Option (TypeId×List SV)
 |some (.cells e cs)=>some (e,cs)
 |_=>none
def isU:SV->Bool
 | .undef=>true
 |_=>false
def kW:List SV->Bool
 | []=>true
 |x::l=>sel (isU x) false (kW l)
def cL (o:Option SO) (off n:Nat):Option (TypeId×List SV):=
 match o with
 |some (.cells e cs)=>some (e,cs)
 |some (.ro cs)=>sel (kW ((cs.drop off).take n)) (some (0,cs)) none
 |_=>none
def eV (h:Hf) (id off n:Nat):Option (List SV):=aj (cL (h id) off n) fun p=>sel (Nat.ble (Nat.add off n) p.2.length) (some ((p.2.drop off).take n)) none
def rowOf (x:SV):Hf->Nat->Option (List SV):= @SV.rec (fun _=>Hf->Nat->Option (List SV)) (fun _=>PUnit) (fun _=>fun _ _=>none) (fun _ _=>fun _ _=>none) (fun _=>fun _ _=>none) (fun _ _=>fun _ _=>none) (fun _ _=>none) (fun i o n _=>fun h size=>eV h i o (Nat.mul n size)) (fun _ _=>some []) (fun _ _=>some []) (fun _=>fun _ _=>none) (fun _ _=>none) (fun _ _ _ _ _=>fun _ _=>none) (fun _=>fun _ _=>none) (fun _ _=>none) (fun _ _ _=>fun _ _=>none) (fun _ _=>none) (fun _ _=>fun _ _=>none) (fun _ _=>fun _ _=>none) (fun _ _=>none) PUnit.unit (fun _ _ _ _=>PUnit.unit) x
def wide (i:TI):Nat:=sel (eG i.desc) i.size 1
def g8 (E:Env) (h:Hf) (t:TypeId) (v:SV):Option SV:=aj (ld v) fun q=>aj (E.ty.get t) fun i=>aj (cL (h q.1) q.2 (wide i)) fun p=>cO i p.2 q.2
def ir (E:Env) (h:Hf) (t:TypeId) (v:SV) (a:SV):Option (List Up):=
 aj (ld a) fun q=>pb (E.ty.get t) v.cells (jF (h q.1)) fun i xs p=>sel (Nat.beq xs.length i.size&&Nat.ble (Nat.add q.2 xs.length) p.2.length) (some [(q.1,some (.cells p.1 (bF p.2 q.2 xs)))]) none
def pO (E:Env) (e:TypeId) (id off n k:Nat):Option SV:=sel (Nat.ble (Nat.succ k) n) (aj (E.ty.get e) fun ie=>some (.ptr id (Nat.add off (Nat.mul k ie.size)))) none
def BD (d:UD):Env->SV->Nat->Option SV:= @UD.rec (fun _=>Env->SV->Nat->Option SV) (fun _ _ _=>none) (fun _=>fun _ _ _=>none) (fun _ _ _=>none) (fun _ _ _=>none) (fun e=>fun E x k=>aj (Yi x) fun q=>pO E e q.1 q.2.1 q.2.2.1 k) (fun n e=>fun E x k=>aj (ld x) fun q=>pO E e q.1 q.2 n k) (fun _ _=>fun _ _ _=>none) (fun _=>fun _ _ _=>none) (fun _ _ _=>none) (fun _ _ _=>none) (fun _ _ _=>none) d
def gK (E:Env) (t:TypeId) (x:SV) (k:Nat):Option SV:=aj (E.ty.get t) fun i=>BD i.desc E x k
def dz (tm:Tf):Option Operand->Option (Option Nat)
 |none=>some none
 |some x=>aj (aM tm x) fun v=>aj (eW v) fun n=>some (some n)
def j3 (m:Cp) (l:Nat):Cp:=
 match m with
 | .k c=>.k (Nat.sub c l)
 | .u e=>.u e
def mB (id off l h size:Nat) (m:Cp):SV:=sel (Nat.beq l 0) (.sl id off h m) (sel (Nat.ble (Nat.succ l) h) (.sl id (Nat.add off (Nat.mul l size)) (Nat.sub h l) (j3 m l)) .sle)
def F4 (mx:Option Nat) (h reach:Nat):Bool:=
 match mx with
 |some m=>Nat.ble h m&&Nat.ble m reach
 |none=>true
def orC (a:Option Nat) (b:Cp):Cp:=
 match a with
 |some m=>.k m
 |none=>b
def reach (c:Cp) (n:Nat):Nat:=
 match c with
 | .k m=>m
 | .u _=>n
def nN (c:Cp) (e:TypeId):Bool:=
 match c with
 | .k _=>true
 | .u e'=>Nat.beq e' e
def iZ (E:Env) (e:TypeId) (id off n:Nat) (cap:Cp) (lo hi mx:Option Nat):Option SV:=
 aj (E.ty.get e) fun ie=>sel (nN cap e&&(Nat.ble (lo.getD 0) (hi.getD n)&&(Nat.ble (hi.getD n) (reach cap n)&&F4 mx (hi.getD n) (reach cap n)))) (some (mB id off (lo.getD 0) (hi.getD n) ie.size (orC mx cap))) none
def JP (s:ByteArray) (lo hi mx:Option Nat):Option SV:=
 match mx with
 |some _=>none
 |none=>sel (Nat.ble (lo.getD 0) (hi.getD s.size)&&Nat.ble (hi.getD s.size) s.size) (some (.str (s.extract (lo.getD 0) (hi.getD s.size)))) none
def fa:Option Nat->Bool
 |some n=>Nat.beq n 0
 |none=>true
def AY (x:SV):Env->TypeId->Option Nat->Option Nat->Option Nat->Option SV:= @SV.rec (fun _=>Env->TypeId->Option Nat->Option Nat->Option Nat->Option SV) (fun _=>PUnit) (fun _=>fun _ _ _ _ _=>none) (fun _ _=>fun _ _ _ _ _=>none) (fun _=>fun _ _ _ _ _=>none) (fun _ _=>fun _ _ _ _ _=>none) (fun _ _ _ _ _=>none) (fun i o n c=>fun E e lo hi mx=>iZ E e i o n c lo hi mx) (fun _ _ lo hi mx=>sel (fa lo&&(fa hi&&mx.isNone)) (some .sle) none) (fun _ _ lo hi mx=>sel (fa lo&&(fa hi&&fa mx)) (some .aU) none) (fun _=>fun _ _ _ _ _=>none) (fun _ _ _ _ _=>none) (fun _ _ _ _ _=>fun _ _ _ _ _=>none) (fun _=>fun _ _ _ _ _=>none) (fun _ _ _ _ _=>none) (fun _ _ _=>fun _ _ _ _ _=>none) (fun _ _ _ _ _=>none) (fun _ _=>fun _ _ _ _ _=>none) (fun _ _=>fun _ _ _ _ _=>none) (fun _ _ _ _ _=>none) PUnit.unit (fun _ _ _ _=>PUnit.unit) x
def Uy (d:UD):Env->SV->Option Nat->Option Nat->Option Nat->Option SV:= @UD.rec (fun _=>Env->SV->Option Nat->Option Nat->Option Nat->Option SV) (fun _ _ _ _ _=>none) (fun _=>fun _ _ _ _ _=>none) (fun _ x lo hi mx=>aj (strOf x) fun s=>JP s lo hi mx) (fun _ _ _ _ _=>none) (fun e=>fun E x lo hi mx=>aj (E.ty.get e) fun _=>AY x E e lo hi mx) (fun n e=>fun E x lo hi mx=>aj (ld x) fun q=>iZ E e q.1 q.2 n (.k n) lo hi mx) (fun _ _=>fun _ _ _ _ _=>none) (fun _=>fun _ _ _ _ _=>none) (fun _ _ _ _ _=>none) (fun _ _ _ _ _=>none) (fun _ _ _ _ _=>none) d
def F5 (hi mx:Option Nat):Bool:=
 match mx with
 |some _=>hi.isSome
 |none=>true
def qb (E:Env) (t:TypeId) (x:SV) (lo hi mx:Option Nat):Option SV:=aj (E.ty.get t) fun i=>sel (F5 hi mx) (Uy i.desc E x lo hi mx) none
def ti (s:ByteArray):List SV:=s.data.toList.map fun b=>.int .u8 (.lit b.toNat)
def dO (h:Hf) (size:Nat) (x:SV):Option (Nat×List SV):=aG (oq x) (rowOf x h size) fun n xs=>some (n,xs)
def srcV (x:SV):Hf->Nat->SV->Option (Nat×List SV):= @SV.rec (fun _=>Hf->Nat->SV->Option (Nat×List SV)) (fun _=>PUnit) (fun _=>fun h size x=>dO h size x) (fun _ _=>fun h size x=>dO h size x) (fun b=>fun _ size _=>sel (Nat.beq size 1) (some (b.size,ti b)) none) (fun _ _=>fun h size x=>dO h size x) (fun h size x=>dO h size x) (fun _ _ _ _=>fun h size x=>dO h size x) (fun h size x=>dO h size x) (fun h size x=>dO h size x) (fun _=>fun h size x=>dO h size x) (fun h size x=>dO h size x) (fun _ _ _ _ _=>fun h size x=>dO h size x) (fun _=>fun h size x=>dO h size x) (fun h size x=>dO h size x) (fun _ _ _=>fun h size x=>dO h size x) (fun h size x=>dO h size x) (fun _ _=>fun h size x=>dO h size x) (fun _ _=>fun h size x=>dO h size x) (fun h size x=>dO h size x) PUnit.unit (fun _ _ _ _=>PUnit.unit) x
def iu (h:Hf) (size:Nat) (x:SV):Option (Nat×List SV):=srcV x h size x
def dP (ie:TI):Bool:=Nat.ble ie.bytes 65536&&(Nat.ble 1 ie.size&&Nat.beq ie.zero.length ie.size)
def mj (new:Nat) (e:TypeId) (n:Nat) (cs:List SV) (us:List Up):Option (SV×List Up):=some (.sl new 0 n (.u e),us++ [(new,some (.cells e cs))])
def xY (new:Nat) (e:TypeId) (size id off n:Nat) (cap:Cp) (m:Nat) (xs:List SV) (p:TypeId×List SV) (old:List SV):Option (SV×List Up):=
 match cap with
 | .k c=>
  sel (Nat.ble (Nat.add n m) c)
   (sel (Nat.ble (Nat.add off (Nat.mul (Nat.add n m) size)) p.2.length) (some (.sl id off (Nat.add n m) cap,[(id,some (.cells p.1 (bF p.2 (Nat.add off (Nat.mul n size)) xs)))])) none)
   (mj new e (Nat.add n m) (old++xs) [])
 | .u _=>sel (Nat.ble (Nat.add off (Nat.mul n size)) p.2.length&&Nat.beq e p.1) (mj new e (Nat.add n m) (old++xs) [(id,none)]) none
def Gi (n m:Nat):Cp->Bool
 | .k c=>Nat.ble (Nat.succ c) (Nat.add n m)
 | .u _=>false
def xZ (h:Hf) (new:Nat) (e:TypeId) (size m:Nat) (xs:List SV) (id off n:Nat) (cap:Cp):Option (SV×List Up):=sel (Nat.ble n 1000000) (sel (Gi n m cap) (aj (eV h id off (Nat.mul n size)) fun old=>mj new e (Nat.add n m) (old++xs) []) (aG (jF (h id)) (eV h id off (Nat.mul n size)) fun p old=>xY new e size id off n cap m xs p old)) none
def pg (x:SV):Hf->Nat->TypeId->Nat->Nat->List SV->Option (SV×List Up):= @SV.rec (fun _=>Hf->Nat->TypeId->Nat->Nat->List SV->Option (SV×List Up)) (fun _=>PUnit) (fun _=>fun _ _ _ _ _ _=>none) (fun _ _=>fun _ _ _ _ _ _=>none) (fun _=>fun _ _ _ _ _ _=>none) (fun _ _=>fun _ _ _ _ _ _=>none) (fun _ _ _ _ _ _=>none) (fun i o n c=>fun h new e size m xs=>xZ h new e size m xs i o n c) (fun _ _ _ _ _ _=>none) (fun _ new e _ m xs=>mj new e m xs []) (fun _=>fun _ _ _ _ _ _=>none) (fun _ _ _ _ _ _=>none) (fun _ _ _ _ _=>fun _ _ _ _ _ _=>none) (fun _=>fun _ _ _ _ _ _=>none) (fun _ _ _ _ _ _=>none) (fun _ _ _=>fun _ _ _ _ _ _=>none) (fun _ _ _ _ _ _=>none) (fun _ _=>fun _ _ _ _ _ _=>none) (fun _ _=>fun _ _ _ _ _ _=>none) (fun _ _ _ _ _ _=>none) PUnit.unit (fun _ _ _ _=>PUnit.unit) x
def Ey (E:Env) (h:Hf) (new:Nat) (e:TypeId) (s x:SV):Option (SV×List Up):=
 aj (E.ty.get e) fun ie=>sel (dP ie) (aj (iu h ie.size x) fun q=>sel (Nat.ble q.1 1000000) (sel (Nat.beq q.1 0) (sel (DY s) (some (s,[])) none) (pg s h new e ie.size q.1 q.2)) none) none
def ja (d:UD):Option TypeId:= @UD.rec (fun _=>Option TypeId) (none) (fun _=>none) (none) (none) (fun e=>some e) (fun _ _=>none) (fun _ _=>none) (fun _=>none) (none) (none) (none) d
def gp (E:Env) (h:Hf) (new:Nat) (t:TypeId) (s x:SV):Option (SV×List Up):=aj (E.ty.get t) fun i=>aj (ja i.desc) fun e=>Ey E h new e s x
def th (h:Hf) (size n:Nat) (xs:List SV) (id off:Nat):Option (SV×List Up):=aj (jF (h id)) fun p=>sel (Nat.ble (Nat.add off (Nat.mul n size)) p.2.length) (some (.int .i64 (.lit (.ofNat n)),[(id,some (.cells p.1 (bF p.2 off (xs.take (Nat.mul n size)))))])) none
def n6 (x:SV):Hf->Nat->Nat->List SV->Option (SV×List Up):= @SV.rec (fun _=>Hf->Nat->Nat->List SV->Option (SV×List Up)) (fun _=>PUnit) (fun _=>fun _ _ _ _=>none) (fun _ _=>fun _ _ _ _=>none) (fun _=>fun _ _ _ _=>none) (fun _ _=>fun _ _ _ _=>none) (fun _ _ _ _=>none) (fun i o _ _=>fun h size n xs=>th h size n xs i o) (fun _ _ n _=>some (.int .i64 (.lit (.ofNat n)),[])) (fun _ _ n _=>some (.int .i64 (.lit (.ofNat n)),[])) (fun _=>fun _ _ _ _=>none) (fun _ _ _ _=>none) (fun _ _ _ _ _=>fun _ _ _ _=>none) (fun _=>fun _ _ _ _=>none) (fun _ _ _ _=>none) (fun _ _ _=>fun _ _ _ _=>none) (fun _ _ _ _=>none) (fun _ _=>fun _ _ _ _=>none) (fun _ _=>fun _ _ _ _=>none) (fun _ _ _ _=>none) PUnit.unit (fun _ _ _ _=>PUnit.unit) x
def Gu (E:Env) (h:Hf) (e:TypeId) (d s:SV):Option (SV×List Up):=
 aj (E.ty.get e) fun ie=>sel (dP ie) (aG (oq d) (iu h ie.size s) fun nd q=>n6 d h ie.size (sel (Nat.ble q.1 nd) q.1 nd) q.2) none
def jV (E:Env) (h:Hf) (t:TypeId) (d s:SV):Option (SV×List Up):=aj (E.ty.get t) fun i=>aj (ja i.desc) fun e=>Gu E h e d s
def nX (d:UD):Bool:= @UD.rec (fun _=>Bool) (false) (fun _=>false) (true) (false) (fun _=>false) (fun _ _=>false) (fun _ _=>false) (fun _=>false) (false) (false) (false) d
def xI (d:UD):Bool:= @UD.rec (fun _=>Bool) (true) (fun _=>false) (false) (false) (fun _=>false) (fun _ _=>false) (fun _ _=>false) (fun _=>false) (false) (false) (false) d
def isLit:SI->Bool
 | .lit _=>true
 |_=>false
def Rk (k:IntKind):UD->Bool
 | .int k'=>ct k k'
 |_=>false
def sY (x:SV):UD->Bool:= @SV.rec (fun _=>UD->Bool) (fun _=>PUnit) (fun _=>fun d=>xI d) (fun k e=>fun d=>isLit e&&Rk k d) (fun _=>fun d=>nX d) (fun _ _=>fun _=>false) (fun _=>false) (fun _ _ _ _=>fun _=>false) (fun _=>false) (fun _=>false) (fun _=>fun _=>false) (fun _=>false) (fun _ _ _ _ _=>fun _=>false) (fun _=>fun _=>false) (fun _=>false) (fun _ _ _=>fun _=>false) (fun _=>false) (fun _ _=>fun _=>false) (fun _ _=>fun _=>false) (fun _=>false) PUnit.unit (fun _ _ _ _=>PUnit.unit) x
def aaB:SI->SI->Option Bool
 | .lit a,.lit b=>some (uc a b)
 |_,_=>none
def sameKey (x:SV):SV->Option Bool:= @SV.rec (fun _=>SV->Option Bool) (fun _=>PUnit) (fun a=>fun y=>Xg (.bool a) y) (fun k a=>fun y=>aj (intOf y) fun p=>sel (ct k p.1) (aaB a p.2) none) (fun a=>fun y=>eqStr (.str a) y) (fun _ _=>fun _=>none) (fun _=>none) (fun _ _ _ _=>fun _=>none) (fun _=>none) (fun _=>none) (fun _=>fun _=>none) (fun _=>none) (fun _ _ _ _ _=>fun _=>none) (fun _=>fun _=>none) (fun _=>none) (fun _ _ _=>fun _=>none) (fun _=>none) (fun _ _=>fun _=>none) (fun _ _=>fun _=>none) (fun _=>none) PUnit.unit (fun _ _ _ _=>PUnit.unit) x
def hX (k:SV):List (SV×SV×Nat)->Nat->Option (Option (Nat×SV×Nat))
 | [],_=>some none
 |e::es,i=>
  match sameKey k e.1 with
  |some true=>some (some (i,e.2.1,e.2.2))
  |some false=>hX k es (Nat.add i 1)
  |none=>none
def jc:Option SO->Option (List (SV×SV×Nat)×Nat)
 |some (.map es c)=>some (es,c)
 |_=>none
def LN (x:SV):Hf->Option (List (SV×SV×Nat)):= @SV.rec (fun _=>Hf->Option (List (SV×SV×Nat))) (fun _=>PUnit) (fun _=>fun _=>none) (fun _ _=>fun _=>none) (fun _=>fun _=>none) (fun _ _=>fun _=>none) (fun _=>none) (fun _ _ _ _=>fun _=>none) (fun _=>none) (fun _=>none) (fun i=>fun h=>aj (jc (h i)) fun p=>some p.1) (fun _=>some []) (fun _ _ _ _ _=>fun _=>none) (fun _=>fun _=>none) (fun _=>none) (fun _ _ _=>fun _=>none) (fun _=>none) (fun _ _=>fun _=>none) (fun _ _=>fun _=>none) (fun _=>none) PUnit.unit (fun _ _ _ _=>PUnit.unit) x
def okV (ok:Bool) (v:SV) (b:Bool):SV:=sel ok (.tup [v,.bool b]) v
def wz (ok:Bool) (z:Option SV):Option (Nat×SV×Nat)->Option SV
 |some r=>some (okV ok r.2.1 true)
 |none=>aj z fun z=>some (okV ok z false)
def ql (d:UD):Option (TypeId×TypeId):= @UD.rec (fun _=>Option (TypeId×TypeId)) (none) (fun _=>none) (none) (none) (fun _=>none) (fun _ _=>none) (fun k e=>some (k,e)) (fun _=>none) (none) (none) (none) d
def jN (E:Env) (h:Hf) (t:TypeId) (x k:SV) (ok:Bool):Option SV:=
 aj (E.ty.get t) fun i=>aj (ql i.desc) fun q=>aG (E.ty.get q.1) (E.ty.get q.2) fun ik ie=>sel (sY k ik.desc) (aj (LN x h) fun es=>aj (hX k es 0) fun r=>wz ok (cO ie ie.zero 0) r) none
def CY (es:List (SV×SV×Nat)) (c:Nat) (k v:SV):Option (Nat×SV×Nat)->SO
 |some r=>.map (es.set r.1 (k,v,r.2.2)) c
 |none=>.map (es++ [(k,v,c)]) (Nat.add c 1)
def lC (E:Env) (h:Hf) (t:TypeId) (x k v:SV):Option (List Up):=
 aj (YM x) fun id=>aj (E.ty.get t) fun i=>aj (ql i.desc) fun q=>aG (E.ty.get q.1) (jc (h id)) fun ik p=>sel (sY k ik.desc) (aj (hX k p.1 0) fun r=>some [(id,some (CY p.1 p.2 k v r))]) none
def kJ (n:Nat):SV:=.int .i64 (.lit (.ofNat n))
def YQ (x:SV):Hf->Option SV:= @SV.rec (fun _=>Hf->Option SV) (fun _=>PUnit) (fun _=>fun _=>none) (fun _ _=>fun _=>none) (fun _=>fun _=>none) (fun _ _=>fun _=>none) (fun _=>none) (fun _ _ _ _=>fun _=>none) (fun _=>none) (fun _=>none) (fun i=>fun h=>aj (jc (h i)) fun p=>some (kJ p.1.length)) (fun _=>some (kJ 0)) (fun _ _ _ _ _=>fun _=>none) (fun _=>fun _=>none) (fun _=>none) (fun _ _ _=>fun _=>none) (fun _=>none) (fun _ _=>fun _=>none) (fun _ _=>fun _=>none) (fun _=>none) PUnit.unit (fun _ _ _ _=>PUnit.unit) x
def mX (d:UD):SV->Hf->Option SV:= @UD.rec (fun _=>SV->Hf->Option SV) (fun _ _=>none) (fun _=>fun _ _=>none) (fun x _=>aj (strOf x) fun s=>some (kJ s.size)) (fun _ _=>none) (fun _=>fun x _=>aj (oq x) fun n=>some (kJ n)) (fun n _=>fun _ _=>some (kJ n)) (fun _ _=>fun x h=>YQ x h) (fun _=>fun _ _=>none) (fun _ _=>none) (fun _ _=>none) (fun _ _=>none) d
def bT (tm:Tf):List Operand->Option (List SV)
 | []=>some []
 |x::xs=>aG (aM tm x) (bT tm xs) fun v l=>some (v::l)
def same (r:Option SV):Option (SV×List Up):=aj r fun v=>some (v,[])
def unit (r:Option (List Up)):Option (SV×List Up):=aj r fun us=>some (.tup [],us)
def one (tm:Tf) (x:Operand) (f:SV->Option (SV×List Up)):Option (SV×List Up):=aj (aM tm x) f
def two (tm:Tf) (x y:Operand) (f:SV->SV->Option (SV×List Up)):Option (SV×List Up):=aG (aM tm x) (aM tm y) f
def DD (E:Env) (new:Nat) (e:TypeId):Option (SV×List Up):=aj (E.ty.get e) fun i=>some (.ptr new 0,[(new,some (.cells e i.zero))])
def xC (new:Nat) (e:TypeId) (v:SV):Option (SV×List Up):=aj v.cells fun cs=>some (.ptr new 0,[(new,some (.cells e cs))])
def gQ (E:Env) (new:Nat) (t:TypeId) (len:Nat) (pcs:List (Nat×List SV)):Option (SV×List Up):=
 aj (E.ty.get t) fun i=>aj (ja i.desc) fun e=>aj (E.ty.get e) fun ie=>
  sel (dP ie&&Nat.ble (Nat.mul len ie.size) 16777216) (aj (fR (jb ie.size) (rep ie.zero len) pcs) fun cs=>some (.sl new 0 len (.k len),[(new,some (.cells e cs))])) none
def nC (d:UD):Bool:= @UD.rec (fun _=>Bool) (false) (fun _=>false) (false) (false) (fun _=>false) (fun _ _=>false) (fun _ _=>false) (fun _=>false) (false) (true) (false) d
def Bg (E:Env) (t:TypeId) (v:SV):Option (SV×List Up):=aj (E.ty.get t) fun i=>sel (nC i.desc) none (some (.ifc t v,[]))
def DH:Fn->Bool
 | .func _=>true
 |_=>false
def afU (tm:Tf) (f:Fn) (a c:List Operand):Option (SV×List Up):=sel (DH f) (aG (bT tm a) (bT tm c) fun l m=>some (.fn f l m,[])) none
def Bl (new:Nat):Option (SV×List Up):=some (.mp new,[(new,some (.map [] 0))])
def ail (E:Env) (tm:Tf) (new:Nat) (t:TypeId):Option Operand->Option (SV×List Up)
 |none=>Bl new
 |some x=>aG (E.ty.get t) (aM tm x) fun i v=>aG (ql i.desc) (eW v) fun _ _=>Bl new
def qg (E:Env) (new:Nat) (t:TypeId) (l c:Nat):Option (SV×List Up):=
 aj (E.ty.get t) fun i=>aj (ja i.desc) fun e=>aj (E.ty.get e) fun ie=>
  sel (Nat.ble l c&&(Nat.ble c 1000000&&dP ie)) (some (.sl new 0 l (.k c),[(new,some (.cells e (rep ie.zero c)))])) none
def mP (d:UD):Option (List FL):= @UD.rec (fun _=>Option (List FL)) (none) (fun _=>none) (none) (none) (fun _=>none) (fun _ _=>none) (fun _ _=>none) (fun fs=>some fs) (none) (none) (none) d
def iN (E:Env) (s:TypeId) (f:Nat) (v:SV):Option (SV×List Up):=
 aG (E.ty.get s) (ld v) fun i p=>aj (mP i.desc) fun fs=>aj (fs[f]?) fun fl=>aj (E.ty.get fl.type) fun fi=>sel (Nat.ble 1 fi.size) (some (.ptr p.1 (Nat.add p.2 fl.off),[])) none
def mT (E:Env) (t:TypeId) (f:Nat) (v:SV):Option (SV×List Up):=
 aG (E.ty.get t) (uT v) fun i cs=>aj (mP i.desc) fun fs=>aj (fs[f]?) fun fl=>aj (E.ty.get fl.type) fun fi=>same (cO fi cs fl.off)
def agl (d:UD):Env->Nat->SV->Option (SV×List Up):= @UD.rec (fun _=>Env->Nat->SV->Option (SV×List Up)) (fun _ _ _=>none) (fun _=>fun _ _ _=>none) (fun _ k v=>aj (strOf v) fun s=>aj (s.data.toList[k]?) fun b=>some (.int .u8 (.lit (.ofNat b.toNat)),[])) (fun _ _ _=>none) (fun _=>fun _ _ _=>none) (fun n e=>fun E k v=>aG (uT v) (E.ty.get e) fun cs ie=>sel (Nat.ble (Nat.succ k) n) (same (cO ie cs (Nat.mul k ie.size))) none) (fun _ _=>fun _ _ _=>none) (fun _=>fun _ _ _=>none) (fun _ _ _=>none) (fun _ _ _=>none) (fun _ _ _=>none) d
def jM (E:Env) (t:TypeId) (k:Nat) (v:SV):Option (SV×List Up):=aj (E.ty.get t) fun i=>agl i.desc E k v
def afM (x:SV):Hf->Option SO:= @SV.rec (fun _=>Hf->Option SO) (fun _=>PUnit) (fun _=>fun _=>none) (fun _ _=>fun _=>none) (fun _=>fun _=>none) (fun _ _=>fun _=>none) (fun _=>none) (fun _ _ _ _=>fun _=>none) (fun _=>none) (fun _=>none) (fun i=>fun h=>aj (jc (h i)) fun p=>some (.mapIter (some i) p.2 [] p.2)) (fun _=>some (.mapIter none 0 [] 0)) (fun _ _ _ _ _=>fun _=>none) (fun _=>fun _=>none) (fun _=>none) (fun _ _ _=>fun _=>none) (fun _=>none) (fun _ _=>fun _=>none) (fun _ _=>fun _=>none) (fun _=>none) PUnit.unit (fun _ _ _ _=>PUnit.unit) x
def vO (d:UD) (v:SV) (h:Hf):Option SO:=
 match d with
 | .string=>aj (strOf v) fun s=>some (.ia s 0)
 | .map _ _=>afM v h
 |_=>none
def l6 (E:Env) (h:Hf) (new:Nat) (t:TypeId) (v:SV):Option (SV×List Up):=aj (E.ty.get t) fun i=>aj (vO i.desc v h) fun o=>some (.ptr new 0,[(new,some o)])
def rq:Option SO->Option (ByteArray×Nat)
 |some (.ia s p)=>some (s,p)
 |_=>none
def CU (v:SV):Option Nat:=aj (ld v) fun q=>sel (Nat.beq q.2 0) (some q.1) none
def ic (id:Nat) (p:ByteArray×Nat):SV×List Up:=
 sel (Nat.ble (Nat.succ p.2) p.1.size) (.tup [.bool true,kJ p.2,.int .i32 (.lit (Utf8.decode p.1 p.2).1)],[(id,some (.ia p.1 (Nat.add p.2 (Utf8.decode p.1 p.2).2)))]) (.tup [.bool false],[])
def mh (h:Hf) (isS:Bool) (v:SV):Option (SV×List Up):=sel isS (aj (CU v) fun id=>aj (rq (h id)) fun p=>some (ic id p)) none
def uB (i:TI) (ok:Bool):Option SV:=sel ok (aj (cO i i.zero 0) fun z=>some (.tup [z,.bool false])) none
def asserted (x:SV):TypeId->TI->Bool->Option SV:= @SV.rec (fun _=>TypeId->TI->Bool->Option SV) (fun _=>PUnit) (fun _=>fun _ _ _=>none) (fun _ _=>fun _ _ _=>none) (fun _=>fun _ _ _=>none) (fun _ _=>fun _ _ _=>none) (fun _ _ _=>none) (fun _ _ _ _=>fun _ _ _=>none) (fun _ _ _=>none) (fun _ _ _=>none) (fun _=>fun _ _ _=>none) (fun _ _ _=>none) (fun _ _ _ _ _=>fun _ _ _=>none) (fun _=>fun _ _ _=>none) (fun _ _ _=>none) (fun t2 u _=>fun t i ok=>sel (Nat.beq t2 t) (some (okV ok u true)) (uB i ok)) (fun _ i ok=>uB i ok) (fun _ _=>fun _ _ _=>none) (fun _ _=>fun _ _ _=>none) (fun _ _ _=>none) PUnit.unit (fun _ _ _ _=>PUnit.unit) x
def qh (E:Env) (t:TypeId) (ok:Bool) (v:SV):Option (SV×List Up):=aj (E.ty.get t) fun i=>sel (nC i.desc) none (same (asserted v t i ok))
def zT (E:Env) (mx:Bool) (x y:SV):Option SV:=aG (intOf x) (intOf y) fun a b=>aj (sel mx (ltI E a.2 b.2) (ltI E b.2 a.2)) fun r=>some (.int a.1 (sel r b.2 a.2))
def oo:UD->Bool
 | .slice _=>true
 | .string=>true
 |_=>false
def jf {α:Type}:List α->Option (α×α)
 | [a,b]=>some (a,b)
 |_=>none
def fX (E:Env) (h:Hf) (new:Nat) (b:Builtin) (aa:List SV) (ts:List TypeId):Option (SV×List Up):=
 match b with
 | .len=>aG aa.head? ts.head? fun x t=>sel (Nat.beq aa.length 1) (aj (E.ty.get t) fun i=>same (mX i.desc x h)) none
 | .append=>aG (jf aa) (jf ts) fun p q=>aj (E.ty.get q.2) fun i=>sel (oo i.desc) (gp E h new q.1 p.1 p.2) none
 | .copy=>aG (jf aa) ts.head? fun p t=>jV E h t p.1 p.2
 | .min=>aj (jf aa) fun p=>same (zT E false p.1 p.2)
 | .max=>aj (jf aa) fun p=>same (zT E true p.1 p.2)
 |_=>none
def fG (E:Env) (tm:Tf) (h:Hf) (new:Nat) (c:Call):Option (SV×List Up):=
 match c.callee with
 | .builtin b=>aj (bT tm c.args.toList) fun aa=>fX E h new b aa c.argTypes.toList
 |_=>none
def opD (o:Op):Env->Tf->Hf->Nat->Option (SV×List Up):= @Op.rec (fun _=>Env->Tf->Hf->Nat->Option (SV×List Up)) (fun x=>fun _ tm h _=>one tm x fun v=>some (v,[])) (fun x=>fun _ tm h _=>one tm x fun v=>some (v,[])) (fun c x y=>fun _ tm h _=>aj (aM tm c) fun v=>aj (g6 v) fun b=>one tm (sel b x y) fun v=>some (v,[])) (fun e=>fun E _ h new=>DD E new e) (fun e x=>fun _ tm h new=>one tm x (xC new e)) (fun t parts=>fun E tm h _=>aj (ea tm parts.toList) fun pcs=>same (oa E t pcs)) (fun t len parts=>fun E tm h new=>aj (ea tm parts.toList) fun pcs=>gQ E new t len pcs) (fun t m k x=>fun E tm h _=>two tm m k fun a b=>one tm x fun c=>unit (lC E h t a b c)) (fun t x=>fun E tm h _=>one tm x fun v=>same (g8 E h t v)) (fun t x y=>fun E tm h _=>two tm x y fun a v=>unit (ir E h t v a)) (fun _=>fun _ _ _ _=>none) (fun _=>fun _ _ _ _=>none) (fun x=>fun _ tm h _=>one tm x fun v=>same (Bj v)) (fun op t x y _=>fun E tm h _=>two tm x y fun v u=>same (sq E op t x y v u)) (fun op _ x=>fun _ tm h _=>one tm x fun v=>same (unA op v)) (fun s d x=>fun E tm h _=>one tm x fun v=>same (B1 E s d v)) (fun _ _=>fun _ _ _ _=>none) (fun t x=>fun E tm h _=>one tm x (Bg E t)) (fun f a c=>fun _ tm h _=>afU tm f a.toList c.toList) (fun t r=>fun E tm h new=>ail E tm new t r) (fun _ _=>fun _ _ _ _=>none) (fun t l c=>fun E tm h new=>two tm l c fun u v=>aG (eW u) (eW v) (qg E new t)) (fun t x lo hi mx=>fun E tm h _=>one tm x fun v=>pb (dz tm lo) (dz tm hi) (dz tm mx) fun l u m=>same (qb E t v l u m)) (fun s x f=>fun E tm h _=>one tm x (iN E s f)) (fun t x f=>fun E tm h _=>one tm x (mT E t f)) (fun t x ix=>fun E tm h _=>two tm x ix fun v u=>aj (eW u) fun k=>same (gK E t v k)) (fun t x ix=>fun E tm h _=>two tm x ix fun v u=>aj (eW u) fun k=>jM E t k v) (fun t x k ok=>fun E tm h _=>two tm x k fun a b=>same (jN E h t a b ok)) (fun t m k x=>fun E tm h _=>two tm m k fun a b=>one tm x fun c=>unit (lC E h t a b c)) (fun _ _ _=>fun _ _ _ _=>none) (fun _ _ _ _=>fun _ _ _ _=>none) (fun t x=>fun E tm h new=>one tm x (l6 E h new t)) (fun it isS=>fun _ tm h _=>one tm it (mh h isS)) (fun _=>fun _ _ _ _=>none) (fun x _ t ok=>fun E tm h _=>one tm x (qh E t ok)) (fun x i=>fun _ tm h _=>one tm x fun v=>aj (AA v) fun vs=>same (vs[i]?)) (fun c=>fun E tm h new=>fG E tm h new c) (fun _=>fun _ _ _ _=>none) (fun _=>fun _ _ _ _=>none) (fun _=>fun _ _ _ _=>none) (fun _ _=>fun _ _ _ _=>none) (fun _ _ _=>fun _ _ _ _=>none) (fun _ _=>fun _ _ _ _=>none) o
def opA (E:Env) (op:Op) (tm:Tf) (h:Hf) (new:Nat):Option (SV×List Up):=opD op E tm h new
inductive Ex where
 |normal|exit (id:Nat)|ret|pan (v:SV)
 deriving Inhabited
def setArgs (vs:List SV):Nat->Tr SV->Tr SV:= @List.rec SV (fun _=>Nat->Tr SV->Tr SV) (fun _ t=>t) (fun v _ ih i t=>ih (Nat.add i 1) (t.set i (some v))) vs
def nQ (nt:Nat) (tm:Tr SV):List Nat->List SV->Option (Tr SV)
 | [],[]=>some tm
 |p::ps,v::vs=>sel (Nat.ble (Nat.succ p) nt) (nQ nt (tm.set p (some v)) ps vs) none
 |_,_=>none
def bB (tm:Tr SV) (d:Option Nat) (v:SV):Tr SV:= @Option.rec Nat (fun _=>Tr SV) tm (fun d=>tm.set d (some v)) d
def cK (nt:Nat) (d:Option Nat):Bool:= @Option.rec Nat (fun _=>Bool) true (fun d=>Nat.ble (Nat.succ d) nt) d
def aic (x:SV):Bool->Option Bool:= @SV.rec (fun _=>Bool->Option Bool) (fun _=>PUnit) (fun b=>fun want=>some (b==want)) (fun _ _=>fun _=>none) (fun _=>fun _=>none) (fun _ _=>fun _=>none) (fun _=>none) (fun _ _ _ _=>fun _=>none) (fun _=>none) (fun _=>none) (fun _=>fun _=>none) (fun _=>none) (fun _ _ _ _ _=>fun _=>none) (fun _=>fun _=>none) (fun _=>none) (fun _ _ _=>fun _=>none) (fun _=>none) (fun _ _=>fun _=>none) (fun _ _=>fun _=>some false) (fun _=>none) PUnit.unit (fun _ _ _ _=>PUnit.unit) x
def P2 (want:Bool) (x:SV):Option Bool:=aic x want
def qk (l:List Oper):Nat->Option Nat:= @List.rec Oper (fun _=>Nat->Option Nat) (fun _=>none) (fun o _ ih j=> @Nat.rec (fun _=>Option Nat) o.dst (fun k _=>ih k) j) l
def lV (ops:List Oper) (tm:Tf) (j:Nat) (want:Bool):Option Bool:= @Option.rec Nat (fun _=>Option Bool) (some false) (fun t=>aj (tm t) (P2 want)) (qk ops j)
def cg (ops:List Oper) (o:Oper) (tm:Tf):Option Bool:= @Option.rec (Nat×Bool) (fun _=>Option Bool) (some true) (fun g=>lV ops tm g.1 g.2) o.guard
def A2 (E:Env) (tm:Tf) (h:Hf):ResultVar->Option SV
 | .tmp t=>tm t
 | .cell t ty=>aj (tm t) (g8 E h ty)
def jI (E:Env) (tm:Tf) (h:Hf):List ResultVar->Option (List SV)
 | []=>some []
 |r::rs=>aG (A2 E tm h r) (jI E tm h rs) fun v l=>some (v::l)
def oneOf:List SV->SV
 | [v]=>v
 |vs=>.tup vs
def pP:List UInt8->List UInt8->Bool
 | [],[]=>false
 | [],_::_=>true
 |_::_,[]=>false
 |a::l,b::m=>sel (Nat.ble (Nat.succ a.toNat) b.toNat) true (sel (Nat.beq a.toNat b.toNat) (pP l m) false)
def cpB:Cp->Cp->Bool
 | .k a,.k b=>Nat.beq a b
 | .u a,.u b=>Nat.beq a b
 |_,_=>false
def qF (a b:ByteArray):Int:=sel (pP a.data.toList b.data.toList) (-1) (sel (jG a.data.toList b.data.toList) 0 1)
structure Rc where
 i:Nat
 call:Bool
 rd:List Nat
 wr:List Nat
 lo:Nat
 hi:Nat
inductive Dm where
 |mark (d:Nat)
 |fn (k:FuncId) (args dE:List SV)
inductive Job where
 |code (nt:Nat) (c:Code) (tm:Tr SV) (mk:List Dm) (h:Hs)
 |ops (nt:Nat) (all l:List Oper) (tm:Tr SV) (mk:List Dm) (h:Hs)
 |draw (nt W:Nat) (all:List Oper) (base i M:Nat) (prev:List Rc) (l:List Oper) (tm:Tr SV) (h:Hs)
 |call (f:SV) (args:List SV) (h:Hs)
structure Oc where
 e:Ex
 tm:Tr SV
 dm:List Dm
 h:Hs
structure Rs where
 pan:Bool
 v:SV
 h:Hs
inductive Out where
 |bq (l:List Oc)
 |st (tm:Tr SV) (h:Hs)
 |cI (l:List Rs)
 |fail (why:String)
 |pS (k:Nat) (args:List SV) (h:Hs)
 deriving Inhabited
abbrev Out.code (e:Ex) (tm:Tr SV) (mk:List Dm) (h:Hs):Out:=.bq [⟨e,tm,mk,h⟩]
abbrev Out.res (v:SV) (h:Hs):Out:=.cI [⟨false,v,h⟩]
abbrev Out.pan (v:SV) (h:Hs):Out:=.cI [⟨true,v,h⟩]
def Mj:Out->Out->Out
 | .bq a,.bq b=>.bq (a++b)
 | .cI a,.cI b=>.cI (a++b)
 | .fail s,_=>.fail s
 |_,.fail s=>.fail s
 |_,_=>.fail "app"
def oz {α:Type} (k:α->Out) (l:List α):Out:=
 @List.rec α (fun _=>Out) (.fail "no way") (fun o l ih=> @List.rec α (fun _=>Out) (k o) (fun _ _ _=>Mj (k o) ih) l) l
def vR (r:Out) (k:Ex->Tr SV->List Dm->Hs->Out):Out:= @Out.rec (fun _=>Out) (fun l=>oz (fun o=>k o.e o.tm o.dm o.h) l) (fun _ _=>.fail "onCode") (fun _=>.fail "onCode") (fun s=>.fail s) (fun a b c=>.pS a b c) r
def stK (r:Out) (k:Tr SV->Hs->Out):Out:= @Out.rec (fun _=>Out) (fun _=>.fail "stK") k (fun _=>.fail "stK") (fun s=>.fail s) (fun a b c=>.pS a b c) r
def Dy (r:Out) (k kp:SV->Hs->Out):Out:= @Out.rec (fun _=>Out) (fun _=>.fail "resK") (fun _ _=>.fail "resK") (fun l=>oz (fun r=>sel r.pan (kp r.v r.h) (k r.v r.h)) l) (fun s=>.fail s) (fun a b c=>.pS a b c) r
def one1 (l:List Rs) (k:Rs->Out):Out:= @List.rec Rs (fun _=>Out) (.fail "no way") (fun r l _=> @List.rec Rs (fun _=>Out) (k r) (fun _ _ _=>.fail "many ways") l) l
def DF (r:Out) (k kp:SV->Hs->Out):Out:= @Out.rec (fun _=>Out) (fun _=>.fail "oneK") (fun _ _=>.fail "oneK") (fun l=>one1 l fun r=>sel r.pan (kp r.v r.h) (k r.v r.h)) (fun s=>.fail s) (fun a b c=>.pS a b c) r
def seqE (e:Ex) (tm:Tr SV) (mk:List Dm) (h:Hs) (k:Tr SV->List Dm->Hs->Out):Out:= @Ex.rec (fun _=>Out) (k tm mk h) (fun id=>.code (.exit id) tm mk h) (.code .ret tm mk h) (fun v=>.code (.pan v) tm mk h) e
def rX (r:Out) (k:Tr SV->List Dm->Hs->Out):Out:=vR r fun e tm mk h=>seqE e tm mk h k
def leave (id:Nat) (e:Ex):Ex:= @Ex.rec (fun _=>Ex) .normal (fun id'=>sel (Nat.beq id' id) .normal (.exit id')) .ret (fun v=>.pan v) e
def B7 (id:Nat) (r:Out):Out:=vR r fun e tm mk h=>.code (leave id e) tm mk h
def B2 (v:Option SV) (a b:Out):Out:= @Option.rec Bool (fun _=>Out) (.fail "cond") (fun c=>sel c a b) (aj v g6)
def adj (j:Option Code) (tm:Tr SV) (mk:List Dm) (h:Hs):Out:=
 match j with
 |none=>.code .normal tm mk h
 |some c=>(match c with| .ret=>.code .ret tm mk h| .exit id=>.code (.exit id) tm mk h|_=>.fail "pending")
def DL:LoopState->Bool
 | .busy=>false
 |_=>true
def Ah (l d:Nat) (tm:Tr SV) (mk:List Dm) (h:Hs):Out:=
 match h.hp.get l with
 |some (.loop nt tm0 ps aa bo st gP dd)=>sel (DL st) (adj gP tm (.mark d::mk) (h.put l (.loop nt tm0 ps aa bo .exhausted gP dd))) (.fail "loop busy")
 |_=>.fail "loop lost"
def gZ (nt:Nat) (tm:Tr SV) (ps:List Nat) (assign body:Code) (h:Hs):Hs:=
 ⟨(h.hp.set h.nx (some .dfr)).set (Nat.add h.nx 1) (some (.loop nt tm ps assign body .ready none h.nx)),Nat.add h.nx 2,h.lg⟩
def ur (E:Env):SV->Bool
 | .fn (.func k) _ _=> @Option.rec Func (fun _=>Bool) false (fun fn=>fn.body.isSome) (E.fn.get k)
 |_=>false
def J9 (E:Env) (rec:Job->Out) (nt:Nat) (g:Option SV) (ps:List Nat) (assign body:Code) (tm:Tr SV) (mk:List Dm) (h:Hs):Out:=
 match g with
 |some g=>sel (ur E g) (DF (rec (.call g [.yld (Nat.add h.nx 1)] (gZ nt tm ps assign body h))) (fun _ h2=>Ah (Nat.add h.nx 1) h.nx tm mk h2) fun _ _=>.fail "panic in a range") (.fail "rangeFunc")
 |none=>.fail "rangeFunc"
def adA (c:Code):Env->(Job->Out)->Nat->Tr SV->List Dm->Hs->Out:= @Code.rec (fun _=>Env->(Job->Out)->Nat->Tr SV->List Dm->Hs->Out)
 (fun _ _ _ tm mk h=>.code .normal tm mk h)
 (fun _ ops draw _ rec nt tm mk h=>sel draw (stK (rec (.draw nt ops.size ops.toList h.nx 0 0 [] ops.toList tm ⟨h.hp,Nat.add h.nx ops.size,h.lg⟩)) fun tm' h'=>.code .normal tm' mk h') (rec (.ops nt ops.toList ops.toList tm mk h)))
 (fun a b _ _ _ rec nt tm mk h=>rX (rec (.code nt a tm mk h)) fun tm' mk' h'=>rec (.code nt b tm' mk' h'))
 (fun c a b _ _ _ rec nt tm mk h=>B2 (aM tm.get c) (rec (.code nt a tm mk h)) (rec (.code nt b tm mk h)))
 (fun id c _ _ rec nt tm mk h=>B7 id (rec (.code nt c tm mk h)))
 (fun c _ _ rec nt tm mk h=>rX (rec (.code nt c tm mk h)) fun tm' mk' h'=>rec (.code nt (.loop c) tm' mk' h'))
 (fun f ps aa bo _ _ E rec nt tm mk h=>J9 E rec nt (aM tm.get f) ps.toList aa bo tm mk h)
 (fun id _ _ _ tm mk h=>.code (.exit id) tm mk h)
 (fun _ _ _ _ _ _ _ _=>.fail "scope")
 (fun _ _ _ _ _ _ _=>.fail "label")
 (fun _ _ _ _ _ _ _=>.fail "goto")
 (fun _ _ _ tm mk h=>.code .ret tm mk h)
 (fun _ _ _ _ _ _ _=>.fail "refuse") c
def ig (tm:Tf):Callee->Option SV
 | .value x=>aM tm x
 |_=>none
def isValue:Callee->Bool
 | .value _=>true
 |_=>false
def dB (o:Op):Option Call:= @Op.rec (fun _=>Option Call) (fun _=>none) (fun _=>none) (fun _ _ _=>none) (fun _=>none) (fun _ _=>none) (fun _ _=>none) (fun _ _ _=>none) (fun _ _ _ _=>none) (fun _ _=>none) (fun _ _ _=>none) (fun _=>none) (fun _=>none) (fun _=>none) (fun _ _ _ _ _=>none) (fun _ _ _=>none) (fun _ _ _=>none) (fun _ _=>none) (fun _ _=>none) (fun _ _ _=>none) (fun _ _=>none) (fun _ _=>none) (fun _ _ _=>none) (fun _ _ _ _ _=>none) (fun _ _ _=>none) (fun _ _ _=>none) (fun _ _ _=>none) (fun _ _ _=>none) (fun _ _ _ _=>none) (fun _ _ _ _=>none) (fun _ _ _=>none) (fun _ _ _ _=>none) (fun _ _=>none) (fun _ _=>none) (fun _=>none) (fun _ _ _ _=>none) (fun _ _=>none) (fun c=>sel (isValue c.callee) (some c) none) (fun _=>none) (fun _=>none) (fun _=>none) (fun _ _=>none) (fun _ _ _=>none) (fun _ _=>none) o
def ain (x:Nat):List Nat->Bool
 | []=>false
 |y::l=>sel (Nat.beq x y) true (ain x l)
def xP (o:Op):Option Call:= @Op.rec (fun _=>Option Call) (fun _=>none) (fun _=>none) (fun _ _ _=>none) (fun _=>none) (fun _ _=>none) (fun _ _=>none) (fun _ _ _=>none) (fun _ _ _ _=>none) (fun _ _=>none) (fun _ _ _=>none) (fun _=>none) (fun _=>none) (fun _=>none) (fun _ _ _ _ _=>none) (fun _ _ _=>none) (fun _ _ _=>none) (fun _ _=>none) (fun _ _=>none) (fun _ _ _=>none) (fun _ _=>none) (fun _ _=>none) (fun _ _ _=>none) (fun _ _ _ _ _=>none) (fun _ _ _=>none) (fun _ _ _=>none) (fun _ _ _=>none) (fun _ _ _=>none) (fun _ _ _ _=>none) (fun _ _ _ _=>none) (fun _ _ _=>none) (fun _ _ _ _=>none) (fun _ _=>none) (fun _ _=>none) (fun _=>none) (fun _ _ _ _=>none) (fun _ _=>none) (fun _=>none) (fun _=>none) (fun c=>sel (isValue c.callee) (some c) none) (fun _=>none) (fun _ _=>none) (fun _ _ _=>none) (fun _ _=>none) o
def xB (o:Op):Option Operand:= @Op.rec (fun _=>Option Operand) (fun _=>none) (fun _=>none) (fun _ _ _=>none) (fun _=>none) (fun _ _=>none) (fun _ _=>none) (fun _ _ _=>none) (fun _ _ _ _=>none) (fun _ _=>none) (fun _ _ _=>none) (fun _=>none) (fun _=>none) (fun _=>none) (fun _ _ _ _ _=>none) (fun _ _ _=>none) (fun _ _ _=>none) (fun _ _=>none) (fun _ _=>none) (fun _ _ _=>none) (fun _ _=>none) (fun _ _=>none) (fun _ _ _=>none) (fun _ _ _ _ _=>none) (fun _ _ _=>none) (fun _ _ _=>none) (fun _ _ _=>none) (fun _ _ _=>none) (fun _ _ _ _=>none) (fun _ _ _ _=>none) (fun _ _ _=>none) (fun _ _ _ _=>none) (fun _ _=>none) (fun _ _=>none) (fun _=>none) (fun _ _ _ _=>none) (fun _ _=>none) (fun _=>none) (fun _=>none) (fun _=>none) (fun x=>some x) (fun _ _=>none) (fun _ _ _=>none) (fun _ _=>none) o
def goK (rec:Job->Out) (h:Hs) (f:Option SV) (aa:Option (List SV)) (k kp:SV->Hs->Out):Out:=
 @Option.rec (SV×List SV) (fun _=>Out) (.fail "call") (fun p=>Dy (rec (.call p.1 p.2 h)) k kp) (aG f aa fun f aa=>some (f,aa))
def RD (rec:Job->Out) (h:Hs) (f:Option SV) (aa:Option (List SV)) (k kp:SV->Hs->Out):Out:=
 @Option.rec (SV×List SV) (fun _=>Out) (.fail "call") (fun p=>DF (rec (.call p.1 p.2 h)) k kp) (aG f aa fun f aa=>some (f,aa))
def oP (rec:Job->Out) (nt:Nat) (all l:List Oper) (tm:Tr SV) (mk:List Dm) (d:Option Nat) (v:SV) (h:Hs):Out:=rec (.ops nt all l (bB tm d v) mk h)
def P3 (rec:Job->Out) (nt:Nat) (all l:List Oper) (tm:Tr SV) (mk:List Dm) (h:Hs) (o:Oper) (r:Option (SV×List Up)):Out:=
 @Option.rec (SV×List Up) (fun _=>Out) (.fail o.pos) (fun r=>oP rec nt all l tm mk o.dst r.1 (h.fin r.2)) r
def Bk (o:Op):Option (Operand×Bool):= @Op.rec (fun _=>Option (Operand×Bool)) (fun _=>none) (fun _=>none) (fun _ _ _=>none) (fun _=>none) (fun _ _=>none) (fun _ _=>none) (fun _ _ _=>none) (fun _ _ _ _=>none) (fun _ _=>none) (fun _ _ _=>none) (fun _=>none) (fun _=>none) (fun _=>none) (fun _ _ _ _ _=>none) (fun _ _ _=>none) (fun _ _ _=>none) (fun _ _=>none) (fun _ _=>none) (fun _ _ _=>none) (fun _ _=>none) (fun _ _=>none) (fun _ _ _=>none) (fun _ _ _ _ _=>none) (fun _ _ _=>none) (fun _ _ _=>none) (fun _ _ _=>none) (fun _ _ _=>none) (fun _ _ _ _=>none) (fun _ _ _ _=>none) (fun _ _ _=>none) (fun _ _ _ _=>none) (fun _ _=>none) (fun it isS=>sel isS none (some (it,false))) (fun it=>some (it,true)) (fun _ _ _ _=>none) (fun _ _=>none) (fun _=>none) (fun _=>none) (fun _=>none) (fun _=>none) (fun _ _=>none) (fun _ _ _=>none) (fun _ _=>none) o
def panV:SV->Option SV
 | .ifc t v=>some (.ifc t v)
 |_=>none
def doK (E:Env) (rec:Job->Out) (nt:Nat) (all l:List Oper) (tm:Tr SV) (mk:List Dm) (h:Hs) (o:Oper) (c:Option Call):Out:=
 @Option.rec Call (fun _=>Out) (P3 rec nt all l tm mk h o (opA E o.op tm.get h.hp.get h.nx)) (fun c=>goK rec h (ig tm.get c.callee) (bT tm.get c.args.toList) (oP rec nt all l tm mk o.dst) fun v h=>.code (.pan v) tm mk h) c
def xm (E:Env) (rec:Job->Out) (nt:Nat) (all l:List Oper) (tm:Tr SV) (mk:List Dm) (h:Hs) (o:Oper) (w:Option Bool):Out:=
 @Option.rec Bool (fun _=>Out) (.fail "wanted") (fun w=>sel w (doK E rec nt all l tm mk h o (dB o.op)) (oP rec nt all l tm mk o.dst (.tup []) h)) w
def Ot (E:Env) (rec:Job->Out) (nt:Nat) (all l:List Oper) (tm:Tr SV) (mk:List Dm) (h:Hs):Out:=
 @List.rec Oper (fun _=>Out) (.code .normal tm mk h) (fun o l _=>sel (cK nt o.dst) (xm E rec nt all l tm mk h o (cg all o tm.get)) (.fail "slot")) l
def force {β:Type} (m:Nat) (f:Nat->β):β:=Nat.rec (f 0) (fun k _=>f (k+1)) m
def dN (o:Oper):List Nat:=(o.after.toList.filter (Region.binds .any ·)).map (·.on)
def fF (W M:Nat):List Nat->Nat
 | []=>0
 |i::ds=>Nat.lor (fF W M ds) (Nat.lor (Nat.shiftLeft 1 i) (Nat.mod (Nat.shiftRight M (Nat.mul i W)) (Nat.pow 2 W)))
def eu (m i:Nat):Bool:=Nat.beq (Nat.land (Nat.shiftRight m i) 1) 1
def eh (x:Nat):List Nat->Bool
 | []=>false
 |y::l=>sel (Nat.beq x y) true (eh x l)
def iJ:List Nat->List Nat->Bool
 | [],_=>true
 |x::l,m=>sel (eh x m) false (iJ l m)
def mU:List Nat->Bool
 | []=>true
 |_=>false
def jr (lo hi:Nat):List Nat->Bool
 | []=>true
 |x::l=>sel (Nat.ble (Nat.succ x) lo) (jr lo hi l) (sel (Nat.ble hi x) (jr lo hi l) false)
def ta (p r:Rc):Bool:=
 jr p.lo p.hi r.rd&&(jr p.lo p.hi r.wr&&(jr r.lo r.hi p.rd&&(jr r.lo r.hi p.wr&&(iJ p.rd r.wr&&(iJ r.rd p.wr&&(iJ p.wr r.wr &&
  sel p.call (sel r.call false (mU r.wr)) (sel r.call (mU p.wr) true)))))))
def cX (m:Nat) (r:Rc):List Rc->Bool
 | []=>true
 |p::ps=>sel (eu m p.i) (cX m r ps) (sel (ta p r) (cX m r ps) false)
def gq (j:Nat):List Nat->Bool
 | []=>true
 |i::l=>sel (Nat.ble (Nat.succ i) j) (gq j l) false
def eo:Option SV->List Nat
 |some (.ptr i _)=> [i]
 |some (.sl i _ _ _)=> [i]
 |some (.mp i)=> [i]
 |_=> []
def g9 (tm:Tf):List Operand->List Nat
 | []=> []
 |x::xs=>eo (aM tm x)++g9 tm xs
def idM:Option SV->List Nat
 |some (.mp i)=> [i]
 |_=> []
def ud (tm:Tf):List Operand->List Nat
 | []=> []
 |x::xs=>idM (aM tm x)++ud tm xs
def ka (c:Call):Bool:=
 match c.callee with
 | .builtin .len=>true
 |_=>false
def eC (op:Op) (tm:Tf):List Nat:=
 match op with
 | .load _ x=>g9 tm [x]
 | .store _ x y=>g9 tm [x,y]
 | .lookup _ x k _=>g9 tm [x,k]
 | .mapUpdate _ m k x=>g9 tm [m,k,x]
 | .insert _ m k x=>g9 tm [m,k,x]
 | .next it _=>g9 tm [it]
 | .range _ x=>g9 tm [x]
 | .call c=>sel (ka c) (ud tm c.args.toList) (g9 tm c.args.toList)
 |_=> []
def gE (new:Nat):List Up->List Nat
 | []=> []
 |u::us=>sel (Nat.beq u.1 new) (gE new us) (u.1::gE new us)
def below (n:Nat):List Nat->List Nat->List Nat
 | [],acc=>acc
 |x::l,acc=>sel (Nat.ble (Nat.succ x) n) (below n l (x::acc)) (below n l acc)
def jx (m:Nat):List Rc->Hp->Hp
 | [],hp=>hp
 |p::ps,hp=>sel (eu m p.i) (jx m ps hp) (jx m ps (hp.set p.lo none))
def dZ (m:Nat) (old:Hp):List Rc->Hp->Hp
 | [],hp=>hp
 |p::ps,hp=>sel (eu m p.i) (dZ m old ps hp) (dZ m old ps (hp.set p.lo (old.get p.lo)))
def js (rec:Job->Out) (nt W:Nat) (all:List Oper) (base i M m:Nat) (prev:List Rc) (l:List Oper) (tm:Tr SV) (d:Option Nat) (r:Rc) (v:SV) (h:Hs):Out:=
 sel (cX m r prev) (force (Nat.lor M (Nat.shiftLeft m (Nat.mul i W))) fun M'=>rec (.draw nt W all base (Nat.add i 1) M' (r::prev) l (bB tm d v) h)) (.fail "order")
def P4 (rec:Job->Out) (nt W:Nat) (all:List Oper) (base i M m:Nat) (prev:List Rc) (l:List Oper) (tm:Tr SV) (h:Hs) (o:Oper) (r:Option (SV×List Up)):Out:=
 @Option.rec (SV×List Up) (fun _=>Out) (.fail o.pos) (fun r=>js rec nt W all base i M m prev l tm o.dst ⟨i,false,eC o.op tm.get,gE (Nat.add base i) r.2,Nat.add base i,Nat.add (Nat.add base i) 1⟩ r.1 (h.ups r.2)) r
def doD (E:Env) (rec:Job->Out) (nt W:Nat) (all:List Oper) (base i M m:Nat) (prev:List Rc) (l:List Oper) (tm:Tr SV) (h:Hs) (o:Oper) (c:Option Call):Out:=
 @Option.rec Call (fun _=>Out) (P4 rec nt W all base i M m prev l tm h o (opA E o.op tm.get h.hp.get (Nat.add base i)))
  (fun c=>RD rec ⟨jx m prev h.hp,h.nx,[]⟩ (ig tm.get c.callee) (bT tm.get c.args.toList) (fun v h2=>
   js rec nt W all base i M m prev l tm o.dst ⟨i,true,[],below h.nx h2.lg [],h.nx,h2.nx⟩ v ⟨dZ m h.hp prev h2.hp,h2.nx,below h.nx h2.lg h.lg⟩)
   fun _ _=>.fail "panic in a drawn region") c
def FV (E:Env) (rec:Job->Out) (nt W:Nat) (all:List Oper) (base i M m:Nat) (prev:List Rc) (l:List Oper) (tm:Tr SV) (h:Hs) (o:Oper) (w:Option Bool):Out:=
 @Option.rec Bool (fun _=>Out) (.fail "wanted") (fun w=>sel w (doD E rec nt W all base i M m prev l tm h o (dB o.op)) (js rec nt W all base i M m prev l tm o.dst ⟨i,false,[],[],Nat.add base i,Nat.add (Nat.add base i) 1⟩ (.tup []) h)) w
def Ix (E:Env) (rec:Job->Out) (nt W:Nat) (all:List Oper) (base i M:Nat) (prev:List Rc) (l:List Oper) (tm:Tr SV) (h:Hs):Out:=
 @List.rec Oper (fun _=>Out) (.st tm h) (fun o l _=>sel (cK nt o.dst && gq i (dN o)) (force (Nat.mod (fF W M (dN o)) (Nat.pow 2 W)) fun m=>FV E rec nt W all base i M m prev l tm h o (cg all o tm.get)) (.fail "slot")) l
def Ir:List Operand->List Nat
 | []=> []
 |x::xs=>(match x with| .tmp t=>t::Ir xs|_=>Ir xs)
def looks (all:List Oper) (o:Oper):List Nat:=Ir o.op.operands.toList++(match o.guard with|some g=>(qk all g.1).toList|none=> [])
def sO (all:List Oper) (p r:Oper):Bool:=iJ p.dst.toList (looks all r)&&(iJ r.dst.toList (looks all p)&&iJ p.dst.toList r.dst.toList)
def qa (all:List Oper) (m:Nat) (r:Oper):Nat->List Oper->Bool
 |_,[]=>true
 |k,p::ps=>sel (eu m k) (qa all m r (Nat.sub k 1) ps) (sel (sO all p r) (qa all m r (Nat.sub k 1) ps) false)
def pJ (W:Nat) (all:List Oper):List Oper->Nat->Nat->List Oper->Bool
 | [],_,_,_=>true
 |o::l,i,M,prev=>force (Nat.mod (fF W M (dN o)) (Nat.pow 2 W)) fun m=>sel (qa all m o (Nat.sub i 1) prev) (force (Nat.lor M (Nat.shiftLeft m (Nat.mul i W))) fun M'=>pJ W all l (Nat.add i 1) M' (o::prev)) false
def codeOk (c:Code):Bool:= @Code.rec (fun _=>Bool) true (fun _ ops draw=>sel draw (pJ ops.size ops.toList ops.toList 0 0 []) true) (fun _ _ a b=>a&&b) (fun _ _ _ a b=>a&&b) (fun _ _ a=>a) (fun _ a=>a) (fun _ _ _ _ a b=>a&&b) (fun _=>true) (fun _ a=>a) (fun _=>true) (fun _=>true) true (fun _=>true) c
def RE (fn:Func):Bool:= @Option.rec Code (fun _=>Bool) true codeOk fn.body
def Gr (e:Ex):Option (Option SV):= @Ex.rec (fun _=>Option (Option SV)) (some none) (fun _=>none) (some none) (fun v=>some (some v)) e
def qs (s:String):Bool:=s== "runtime.NumGoroutine"
def nilD:List Dm->Bool
 | []=>true
 |_=>false
def BA (e:Ex):Bool:= @Ex.rec (fun _=>Bool) true (fun _=>false) true (fun _=>false) e
def eL (e:Ex):Bool:= @Ex.rec (fun _=>Bool) true (fun _=>false) false (fun _=>false) e
def ZR (E:Env) (fn:Func) (tm:Tr SV) (u:Option SV) (h:Hs):Out:=
 @Option.rec SV (fun _=>Out) (@Option.rec (List SV) (fun _=>Out) (.fail fn.name) (fun vs=>.res (oneOf vs) h) (jI E tm.get h.hp.get fn.results.toList)) (fun v=>.pan v h) u
def kV (E:Env) (fn:Func) (tm:Tr SV):List Dm->Option SV->Hs->Out
 | [],u,h=>ZR E fn tm u h
 | .mark d::mk,u,h=>(match h.hp.get d with|some .dfr=>kV E fn tm mk u ⟨h.hp.set d none,h.nx,d::h.lg⟩|_=>.fail "mark")
 |_,_,_=>.fail "mark"
def B0 (nx:Nat) (lg:List Nat) (r:Out):Out:=Dy r (fun v h=>.res v ⟨h.hp,h.nx,below nx h.lg lg⟩) fun v h=>.pan v ⟨h.hp,h.nx,below nx h.lg lg⟩
mutual
def svB:SV->SV->Bool
 | .bool a,.bool b=>(sel a b (!b))
 | .int k a,.int k' b=>ct k k'&&a.eqb b
 | .str a,.str b=>pT a b
 | .ptr a b,.ptr c d=>Nat.beq a c&&Nat.beq b d
 | .cU,.cU=>true
 | .sl a b c d,.sl a' b' c' d'=>Nat.beq a a'&&(Nat.beq b b'&&(Nat.beq c c'&&cpB d d'))
 | .sle,.sle=>true
 | .aU,.aU=>true
 | .mp a,.mp b=>Nat.beq a b
 | .cV,.cV=>true
 | .fn (.func k) a c,.fn (.func k') a' c'=>Nat.beq k k'&&(C2 a a'&&C2 c c')
 | .dt,.dt=>true
 | .ifc t v,.ifc t' v'=>Nat.beq t t'&&svB v v'
 | .cW,.cW=>true
 | .agg l,.agg l'=>C2 l l'
 | .tup l,.tup l'=>C2 l l'
 |_,_=>false
def C2:List SV->List SV->Bool
 | [],[]=>true
 |x::l,y::m=>svB x y&&C2 l m
 |_,_=>false
end
def adx:List (SV×SV×Nat)->List (SV×SV×Nat)->Bool
 | [],[]=>true
 |x::l,y::m=>svB x.1 y.1&&(svB x.2.1 y.2.1&&(Nat.beq x.2.2 y.2.2&&adx l m))
 |_,_=>false
def soB:Option SO->Option SO->Bool
 |some (.cells e cs),some (.cells e' cs')=>Nat.beq e e'&&C2 cs cs'
 |some (.map es c),some (.map es' c')=>Nat.beq c c'&&adx es es'
 |_,_=>false
def meet (o:Hp):List Nat->Hp->Hp
 | [],hp=>hp
 |x::l,hp=>sel (soB (hp.get x) (o.get x)) (meet o l hp) (meet o l (hp.set x none))
def vM (E:Env) (rec:Job->Out) (fn:Func) (nx:Nat) (lg:List Nat) (r:Out):Out:=
 vR r fun e tm mk h=> @Option.rec (Option SV) (fun _=>Out) (.fail "exit") (fun u=>B0 nx lg (kV E fn tm mk u h)) (Gr e)
def LD (fn:Func) (aa:List SV) (h:Hs):Out:=
 match aa with
 | [a,b]=>(match strOf a with|some a=>(match strOf b with|some b=>sel (fn.name== "internal/bytealg.abigen_runtime_cmpstring") (.res (.int .i64 (.lit (qF a b))) h) (.fail fn.name)|_=>.fail fn.name)|_=>.fail fn.name)
 |_=>.fail fn.name
def L9 (E:Env) (rec:Job->Out) (k:Nat) (fn:Func) (aa:List SV) (h:Hs):Out:=
 @Option.rec Code (fun _=>Out) (LD fn aa h) (fun c=>sel (Nat.ble aa.length fn.ntmps) (sel (qs fn.name) (.fail "NumGoroutine") (vM E rec fn h.nx h.lg (rec (.code fn.ntmps c (setArgs aa 0 .nil) [] ⟨h.hp,h.nx,[]⟩)))) (.fail "args")) fn.body
def wy (E:Env) (rec:Job->Out) (k:Nat) (fn:Option Func) (aa:List SV) (h:Hs):Out:= @Option.rec Func (fun _=>Out) (.fail "no function") (fun fn=>L9 E rec k fn aa h) fn
def finK (l:Nat) (h:Hs) (j:Option Code):Out:=
 match h.hp.get l with
 |some (.loop nt tm0 ps aa bo st gP dd)=>.res (.bool j.isNone) (h.put l (.loop nt tm0 ps aa bo (sel j.isNone .ready .done) j dd))
 |_=>.fail "loop gone"
def exJ:Ex->Option Code
 | .normal=>none
 | .ret=>some .ret
 | .exit id=>some (.exit id)
 | .pan _=>none
def abT (e:Ex):Bool:= @Ex.rec (fun _=>Bool) true (fun _=>true) true (fun _=>false) e
def one2 (l:List Oc) (k:Oc->Out):Out:= @List.rec Oc (fun _=>Out) (.fail "no way") (fun r l _=> @List.rec Oc (fun _=>Out) (k r) (fun _ _ _=>.fail "many ways") l) l
def YD (r:Out) (k:Ex->Tr SV->List Dm->Hs->Out):Out:= @Out.rec (fun _=>Out) (fun l=>one2 l fun o=>k o.e o.tm o.dm o.h) (fun _ _=>.fail "oneC") (fun _=>.fail "oneC") (fun s=>.fail s) (fun a b c=>.pS a b c) r
def J1 (l:Nat) (r:Out):Out:=YD r fun e _ mk h=>(match mk with| []=>sel (abT e) (finK l h (exJ e)) (.fail "panic in a round")|_=>.fail "marks in a round")
def isReady:LoopState->Bool
 | .ready=>true
 |_=>false
def adE (rec:Job->Out) (l nt:Nat) (bo:Code) (tm:Tr SV) (mk:List Dm) (h:Hs):Out:=
 match h.hp.get l with
 |some (.loop nt' tm0 ps aa bo' st gP dd)=>(match mk with| []=>sel (isReady st) (J1 l (rec (.code nt bo tm [] (h.put l (.loop nt' tm0 ps aa bo' .busy gP dd))))) (.fail "not ready")|_=>.fail "marks")
 |_=>.fail "loop gone"
def UH (rec:Job->Out) (l nt:Nat) (aa bo:Code) (tm1:Option (Tr SV)) (h:Hs):Out:=
 match tm1 with
 |none=>.fail "params"
 |some tm1=>YD (rec (.code nt aa tm1 [] h)) fun e tm mk h1=>sel (eL e) (adE rec l nt bo tm mk h1) (.fail "assign")
def Im (rec:Job->Out) (l:Nat) (o:Option SO) (aa:List SV) (h:Hs):Out:=
 match o with
 |some (.loop nt tm0 ps as' bo st gP dd)=>sel (isReady st) (UH rec l nt as' bo (nQ nt tm0 ps aa) h) (.fail "yield")
 |_=>.fail "yield"
def rB (k:Nat):List (Nat×SV)->Option SV
 | []=>none
 |p::l=>sel (Nat.beq p.1 k) (some p.2) (rB k l)
def iP (E:Env) (k:Nat) (aa:List SV):Option SV:= @List.rec SV (fun _=>Option SV) (rB k E.done) (fun _ _ _=>none) aa
mutual
def J7 (τ:Nat->Nat):SV->SV
 | .bool b=>.bool b
 | .int k e=>.int k e
 | .str s=>.str s
 | .ptr a o=>.ptr (τ a) o
 | .cU=>.cU
 | .sl a o n c=>.sl (τ a) o n c
 | .sle=>.sle
 | .aU=>.aU
 | .mp a=>.mp (τ a)
 | .cV=>.cV
 | .fn f a c=>.fn f (qU τ a) (qU τ c)
 | .yld a=>.yld (τ a)
 | .dt=>.dt
 | .ifc t v=>.ifc t (J7 τ v)
 | .cW=>.cW
 | .agg l=>.agg (qU τ l)
 | .tup l=>.tup (qU τ l)
 | .undef=>.undef
def qU (τ:Nat->Nat):List SV->List SV
 | []=> []
 |x::l=>J7 τ x::qU τ l
end
def QB (τ:Nat->Nat):List (SV×SV×Nat)->List (SV×SV×Nat)
 | []=> []
 |e::l=>(J7 τ e.1,J7 τ e.2.1,e.2.2)::QB τ l
def renO (τ:Nat->Nat):SO->SO
 | .cells e cs=>.cells e (qU τ cs)
 | .map es c=>.map (QB τ es) c
 |o=>o
def afN:SO->Bool
 | .cells _ _=>true
 | .map _ _=>true
 |_=>false
def fnK (E:Env) (rec:Job->Out) (f:Fn) (aa:List SV) (h:Hs):Out:=
 match f with
 | .func k=> @Option.rec SV (fun _=>Out) (wy E rec k (E.fn.get k) aa h) (fun v=>.res v h) (iP E k aa)
 |_=>.fail "callee"
def adD (x:SV):Env->(Job->Out)->List SV->Hs->Out:= @SV.rec (fun _=>Env->(Job->Out)->List SV->Hs->Out) (fun _=>PUnit) (fun _=>fun _ _ _ _=>.fail "callee value") (fun _ _=>fun _ _ _ _=>.fail "callee value") (fun _=>fun _ _ _ _=>.fail "callee value") (fun _ _=>fun _ _ _ _=>.fail "callee value") (fun _ _ _ _=>.fail "callee value") (fun _ _ _ _=>fun _ _ _ _=>.fail "callee value") (fun _ _ _ _=>.fail "callee value") (fun _ _ _ _=>.fail "callee value") (fun _=>fun _ _ _ _=>.fail "callee value") (fun _ _ _ _=>.fail "callee value") (fun f first dE _ _=>fun E rec aa h=>fnK E rec f (first++aa++dE) h) (fun l=>fun _ rec aa h=>Im rec l (h.hp.get l) aa h) (fun _ _ _ _=>.fail "callee value") (fun _ _ _=>fun _ _ _ _=>.fail "callee value") (fun _ _ _ _=>.fail "callee value") (fun _ _=>fun _ _ _ _=>.fail "callee value") (fun _ _=>fun _ _ _ _=>.fail "callee value") (fun _ _ _ _=>.fail "callee value") PUnit.unit (fun _ _ _ _=>PUnit.unit) x
def step (E:Env) (rec:Job->Out) (j:Job):Out:=
 @Job.rec (fun _=>Out) (fun nt c tm mk h=>adA c E rec nt tm mk h) (fun nt all l tm mk h=>Ot E rec nt all l tm mk h) (fun nt W all base i M prev l tm h=>Ix E rec nt W all base i M prev l tm h) (fun f aa h=>adD f E rec aa h) j
def run (E:Env) (n:Nat):Job->Out:= @Nat.rec (fun _=>Job->Out) (fun _=>.fail "fuel") (fun _ ih j=>step E ih j) n
end Go.Sim
namespace Go.Sim
open Go.RowKit
section
theorem aC {α:Type} (b:Bool) (x y:α):sel b x y=if b=true then x else y:=by cases b<;>rfl
theorem ar {α:Type} {b:Bool} {x:Option α} {r:α} (h:sel b x none=some r):b=true/\x=some r:=by
 cases b
 ·simp[sel] at h
 ·exact ⟨rfl,h⟩
theorem af {α γ:Type} {x:Option α} {f:α->Option γ} {r:γ} (h:aj x f=some r):∃a,x=some a/\f a=some r:=by
 cases x with
 |none=>cases h
 |some a=>exact ⟨a,rfl,h⟩
theorem az {α β γ:Type} {x:Option α} {y:Option β} {f:α->β->Option γ} {r:γ} (h:aG x y f=some r):∃a b,x=some a/\y=some b/\f a b=some r:=by
 cases x with
 |none=>cases h
 |some a=>
  cases y with
  |none=>cases h
  |some b=>exact ⟨a,b,rfl,rfl,h⟩
theorem pa {α β δ γ:Type} {x:Option α} {y:Option β} {z:Option δ} {f:α->β->δ->Option γ} {r:γ} (h:pb x y z f=some r):∃a b c,x=some a/\y=some b/\z=some c/\f a b c=some r:=by
 obtain ⟨a,ha,h⟩:=af h;obtain ⟨b,c,hb,hc,h⟩:=az h;exact ⟨a,b,c,ha,hb,hc,h⟩
theorem beq_iff (a b:Nat):Nat.beq a b=true↔a=b:=⟨Nat.eq_of_beq_eq_true,fun h=>by subst h;exact Nat.beq_refl a⟩
theorem beq_eq (a b:Nat):Nat.beq a b=decide (a=b):=by
 rw[Bool.eq_iff_iff,beq_iff];simp
theorem bk (a b:Nat):Nat.ble a b=true↔a<=b:=by rw[Nat.ble_eq]
theorem ble_eq (a b:Nat):Nat.ble a b=decide (a<=b):=by
 rw[Bool.eq_iff_iff,bk];simp
theorem Tr.get_nil {α:Type} (i:Nat):(Tr.nil:Tr α).get i=none:=rfl
theorem Tr.qz {α:Type} (l r:Tr α) (v:Option α) (i:Nat):(Tr.node l v r).get i=if i=0 then v else if i % 2=1 then l.get (i / 2) else r.get (i / 2-1):=by
 show sel (Nat.beq i 0) v (sel (Nat.beq (Nat.mod i 2) 1) (l.get (Nat.div i 2)) (r.get (Nat.sub (Nat.div i 2) 1)))=_;rw[aC,aC,beq_eq,beq_eq];simp only[decide_eq_true_eq];rfl
def Tr.left {α:Type}:Tr α->Tr α
 | .nil=>.nil
 | .node l _ _=>l
def Tr.right {α:Type}:Tr α->Tr α
 | .nil=>.nil
 | .node _ _ r=>r
def Tr.val {α:Type}:Tr α->Option α
 | .nil=>none
 | .node _ v _=>v
theorem Tr.wx {α:Type} (t:Tr α) (i:Nat):t.get i=if i=0 then t.val else if i % 2=1 then t.left.get (i / 2) else t.right.get (i / 2-1):=by
 cases t with
 |nil=>simp[Tr.val,Tr.left,Tr.right,Tr.get_nil]
 |node l v r=>rw[Tr.qz];rfl
theorem Tr.UA {α:Type} (n:Nat) (t:Tr α) (i:Nat) (x:Option α):Tr.vH (n+1) t i x=
  if i=0 then .node t.left x t.right else if i % 2=1 then .node (Tr.vH n t.left (i / 2) x) t.val t.right else .node t.left t.val (Tr.vH n t.right (i / 2-1) x):=by
 have e:Tr.vH (n+1) t i x=sel (Nat.beq i 0) (Tr.node t.left x t.right) (sel (Nat.beq (Nat.mod i 2) 1) (.node (Tr.vH n t.left (Nat.div i 2) x) t.val t.right) (.node t.left t.val (Tr.vH n t.right (Nat.sub (Nat.div i 2) 1) x))):=by
  cases t<;>rfl
 rw[e,aC,aC,beq_eq,beq_eq];simp only[decide_eq_true_eq];rfl
theorem Tr.z9 {α:Type}:∀(n:Nat) (t:Tr α) (i j:Nat) (x:Option α),i<n->(Tr.vH n t i x).get j=if j=i then x else t.get j
 |0,_,_,_,_,h=>by omega
 |n+1,t,i,j,x,h=>by
  rw[Tr.UA];by_cases h0:i=0
  ·subst h0;rw[if_pos rfl,Tr.qz];by_cases hj:j=0
   ·simp[hj]
   ·rw[if_neg hj,if_neg hj,Tr.wx t j,if_neg hj]
  ·rw[if_neg h0];by_cases h1:i % 2=1
   ·rw[if_pos h1,Tr.qz,Tr.wx t j];by_cases hj:j=0
    ·subst hj;rw[if_pos rfl,if_pos rfl,if_neg (by omega)]
    ·rw[if_neg hj,if_neg hj];by_cases hj1:j % 2=1
     ·rw[if_pos hj1,if_pos hj1,Tr.z9 n _ _ _ _ (by omega)]
      by_cases e:j=i
      ·rw[if_pos e,if_pos (by omega)]
      ·rw[if_neg e,if_neg (by omega)]
     ·rw[if_neg hj1,if_neg hj1,if_neg (by omega)]
   ·rw[if_neg h1,Tr.qz,Tr.wx t j];by_cases hj:j=0
    ·subst hj;rw[if_pos rfl,if_pos rfl,if_neg (by omega)]
    ·rw[if_neg hj,if_neg hj];by_cases hj1:j % 2=1
     ·rw[if_pos hj1,if_pos hj1,if_neg (by omega)]
     ·rw[if_neg hj1,if_neg hj1,Tr.z9 n _ _ _ _ (by omega)]
      by_cases e:j=i
      ·rw[if_pos e,if_pos (by omega)]
      ·rw[if_neg e,if_neg (by omega)]
theorem Tr.dv {α:Type} (t:Tr α) (i j:Nat) (x:Option α):(t.set i x).get j=if j=i then x else t.get j:=Tr.z9 (i+1) t i j x (by omega)
structure Gh where
 η:Nat->Int
 sz:TypeId->Nat
 ρ:Nat->Option (Nat×Nat)
 lim:Nat->Nat
 et:Nat->TypeId
 wb:Nat->Option Obj
structure Gh.le (g g':Gh):Prop where
 η:g'.η=g.η
 sz:g'.sz=g.sz
 ρ:∀id p,g.ρ id=some p->g'.ρ id=some p
 lim:∀id p,g.ρ id=some p->g'.lim id=g.lim id
 et:∀id p,g.ρ id=some p->g'.et id=g.et id
 wb:g'.wb=g.wb
theorem Gh.le.refl (g:Gh):g.le g:=⟨rfl,rfl,fun _ _ h=>h,fun _ _ _=>rfl,fun _ _ _=>rfl,rfl⟩
theorem Gh.le.trans {a b c:Gh} (h:a.le b) (k:b.le c):a.le c:=
 ⟨k.η.trans h.η,k.sz.trans h.sz,fun id p q=>k.ρ id p (h.ρ id p q),fun id p q=>(k.lim id p (h.ρ id p q)).trans (h.lim id p q),fun id p q=>(k.et id p (h.ρ id p q)).trans (h.et id p q),k.wb.trans h.wb⟩
mutual
inductive VR (g:Gh):Value->SV->Prop
 |bool (b):VR g (.bool b) (.bool b)
 |int (k e) {n:Int} (h:n=e.ev g.η):VR g (.int k n) (.int k e)
 |str (s):VR g (.string s) (.str s)
 |ptr {id off b o} (h:g.ρ id=some (b,o)):VR g (.pointer (some ⟨b,o+off,none⟩)) (.ptr id off)
 |cU:VR g (.pointer none) .cU
 |sl {id off n b o c} {cap:Cp} (h:g.ρ id=some (b,o)) (hn:n<=c) (hc:∀m,cap= .k m->c=m) (hl:∀e,cap= .u e->g.et id=e/\off+c*g.sz e<=g.lim id):VR g (.slice (some ⟨b,o+off,none⟩) n c) (.sl id off n cap)
 |sle {a c}:VR g (.slice a 0 c) .sle
 |aU:VR g (.slice none 0 0) .aU
 |mp {id b o} (h:g.ρ id=some (b,o)):VR g (.map (some b)) (.mp id)
 |cV:VR g (.map none) .cV
 |fn {f:FuncId} {first dE:Array Value} {fs cs:List SV} (h1:VRs g first.toList fs) (h2:VRs g dE.toList cs):VR g (.func (.func f) first dE) (.fn (.func f) fs cs)
 |yld {id b o} (h:g.ρ id=some (b,o)):VR g (.func (.yield b) #[] #[]) (.yld id)
 |dt:VR g .nilFunc .dt
 |ifc {t v x} (h:VR g v x):VR g (.iface t v) (.ifc t x)
 |cW:VR g .nilIface .cW
 |agg {vs:Array Value} {cs} (h:VCs g vs.toList cs):VR g (.agg vs) (.agg cs)
 |tup {vs:Array Value} {cs} (h:VRs g vs.toList cs):VR g (.tuple vs) (.tup cs)
 |undef (v):VR g v .undef
inductive VRs (g:Gh):List Value->List SV->Prop
 |nil:VRs g [] []
 |cons {v x vs xs} (h:VR g v x) (ht:VRs g vs xs):VRs g (v::vs) (x::xs)
inductive VCs (g:Gh):List Value->List SV->Prop
 |nil:VCs g [] []
 |cons {v x vs xs} (h1:v.oneCell'=true) (h:VR g v x) (ht:VCs g vs xs):VCs g (v::vs) (x::xs)
end
mutual
theorem VR.mono {g g':Gh} (hle:g.le g'):∀{v x},VR g v x->VR g' v x
 |_,_,.bool b=>.bool b
 |_,_,.int k e h=>.int k e (by rw[hle.η];exact h)
 |_,_,.str s=>.str s
 |_,_,.ptr h=>.ptr (hle.ρ _ _ h)
 |_,_,.cU=>.cU
 |_,_,.sl h hn hc hl=>.sl (hle.ρ _ _ h) hn hc (fun e he=>by rw[hle.sz,hle.et _ _ h,hle.lim _ _ h];exact hl e he)
 |_,_,.sle=>.sle
 |_,_,.aU=>.aU
 |_,_,.mp h=>.mp (hle.ρ _ _ h)
 |_,_,.cV=>.cV
 |_,_,.fn h1 h2=>.fn (h1.mono hle) (h2.mono hle)
 |_,_,.yld h=>.yld (hle.ρ _ _ h)
 |_,_,.dt=>.dt
 |_,_,.ifc h=>.ifc (h.mono hle)
 |_,_,.cW=>.cW
 |_,_,.agg h=>.agg (h.mono hle)
 |_,_,.tup h=>.tup (h.mono hle)
 |_,_,.undef v=>.undef v
theorem VRs.mono {g g':Gh} (hle:g.le g'):∀{v x},VRs g v x->VRs g' v x
 |_,_,.nil=>.nil
 |_,_,.cons h ht=>.cons (h.mono hle) (ht.mono hle)
theorem VCs.mono {g g':Gh} (hle:g.le g'):∀{v x},VCs g v x->VCs g' v x
 |_,_,.nil=>.nil
 |_,_,.cons h1 h ht=>.cons h1 (h.mono hle) (ht.mono hle)
end
variable {g:Gh} {P:Program}
theorem VCs.length:∀{vs:List Value} {cs:List SV},VCs g vs cs->vs.length=cs.length
 |_,_,.nil=>rfl
 |_,_,.cons _ _ ht=>by simp[ht.length]
theorem VRs.length:∀{vs:List Value} {cs:List SV},VRs g vs cs->vs.length=cs.length
 |_,_,.nil=>rfl
 |_,_,.cons _ ht=>by simp[ht.length]
theorem VCs.get:∀{vs:List Value} {cs:List SV},VCs g vs cs->∀{j:Nat} {x:SV},cs[j]? =some x->∃v,vs[j]? =some v/\v.oneCell'=true/\VR g v x
 |_,_,.nil,_,_,h=>by simp at h
 |_,_,.cons h1 hd ht,j,x,h=>by
  cases j with
  |zero=>simp at h;subst h;exact ⟨_,rfl,h1,hd⟩
  |succ j=>simp at h;obtain ⟨v,a,b,c⟩:=ht.get h;exact ⟨v,by simpa using a,b,c⟩
theorem VRs.get:∀{vs:List Value} {cs:List SV},VRs g vs cs->∀{j:Nat} {x:SV},cs[j]? =some x->∃v,vs[j]? =some v/\VR g v x
 |_,_,.nil,_,_,h=>by simp at h
 |_,_,.cons hd ht,j,x,h=>by
  cases j with
  |zero=>simp at h;subst h;exact ⟨_,rfl,hd⟩
  |succ j=>simp at h;obtain ⟨v,a,c⟩:=ht.get h;exact ⟨v,by simpa using a,c⟩
theorem VCs.append:∀{vs us:List Value} {cs ds:List SV},VCs g vs cs->VCs g us ds->VCs g (vs++us) (cs++ds)
 |_,_,_,_,.nil,k=>k
 |_,_,_,_,.cons h1 hd ht,k=>.cons h1 hd (ht.append k)
theorem VRs.append:∀{vs us:List Value} {cs ds:List SV},VRs g vs cs->VRs g us ds->VRs g (vs++us) (cs++ds)
 |_,_,_,_,.nil,k=>k
 |_,_,_,_,.cons hd ht,k=>.cons hd (ht.append k)
theorem VCs.drop:∀{vs:List Value} {cs:List SV} (n:Nat),VCs g vs cs->VCs g (vs.drop n) (cs.drop n)
 |_,_,0,h=>h
 |_,_,n+1,.nil=>by simpa using .nil
 |_,_,n+1,.cons _ _ ht=>by simpa using ht.drop n
theorem VCs.take:∀{vs:List Value} {cs:List SV} (n:Nat),VCs g vs cs->VCs g (vs.take n) (cs.take n)
 |_,_,0,_=>by simpa using .nil
 |_,_,n+1,.nil=>by simpa using .nil
 |_,_,n+1,.cons h1 hd ht=>by simpa using .cons h1 hd (ht.take n)
theorem VCs.one:∀{vs:List Value} {cs:List SV},VCs g vs cs->∀v∈vs,v.oneCell'=true
 |_,_,.nil,v,hv=>by simp at hv
 |_,_,.cons h1 _ ht,v,hv=>by
  rcases List.mem_cons.1 hv with rfl|hv
  ·exact h1
  ·exact ht.one v hv
theorem VCs.mk:∀{vs:List Value} {cs:List SV},vs.length=cs.length->(∀(j:Nat) (v:Value) (x:SV),vs[j]? =some v->cs[j]? =some x->v.oneCell'=true/\VR g v x)->VCs g vs cs
 | [],[],_,_=>.nil
 |v::vs,x::xs,hl,h=>by
  obtain ⟨a,b⟩:=h 0 v x rfl rfl;exact .cons a b (VCs.mk (by simpa using hl) fun j v x hv hx=>h (j+1) v x (by simpa using hv) (by simpa using hx))
 | [],_::_,hl,_=>by simp at hl
 |_::_,[],hl,_=>by simp at hl
structure Cells (g:Gh) (w:World) (id b o:Nat) (e:TypeId) (cs:List SV):Prop where
 mem:∃cur:Array Value,w.heap[b]? =some (.cells cur e (0,0))/\o+g.lim id<=cur.size/\∃vs,VCs g vs cs/\∀j v,vs[j]? =some v->cur[o+j]? =some v
 et:g.et id=e
def SU (g:Gh) (m:MapEntry) (x:SV×SV×Nat):Prop:=VR g m.key x.1/\VR g m.val x.2.1/\m.born=x.2.2
inductive eB (g:Gh):List MapEntry->List (SV×SV×Nat)->Prop
 |nil:eB g [] []
 |cons {m x ms xs} (h:SU g m x) (ht:eB g ms xs):eB g (m::ms) (x::xs)
theorem eB.mono {g g':Gh} (hle:g.le g'):∀{ms:List MapEntry} {xs:List (SV×SV×Nat)},eB g ms xs->eB g' ms xs
 |_,_,.nil=>.nil
 |_,_,.cons h ht=>.cons ⟨h.1.mono hle,h.2.1.mono hle,h.2.2⟩ (ht.mono hle)
structure FR (g:Gh) (nt:Nat) (tm:Tf) (tmps:Array Value):Prop where
 sz:tmps.size=nt
 tm:∀t x,tm t=some x->VR g (tmps.getD t undef) x
theorem FR.mono {g g':Gh} (hle:g.le g') {nt:Nat} {tm:Tf} {tmps:Array Value} (h:FR g nt tm tmps):FR g' nt tm tmps:=⟨h.sz,fun t x hx=>(h.tm t x hx).mono hle⟩
def OR (g:Gh) (w:World) (id b o:Nat):SO->Prop
 | .cells e cs=>Cells g w id b o e cs
 | .map es c=>∃ms,w.heap[b]? =some (.map ms c)/\eB g ms.toList es
 | .ia s pos=>o=0/\w.heap[b]? =some (.stringIter s pos)
 | .mapIter mp since seen last=>o=0/\∃(bm:Option Nat) (sa:Array Nat),w.heap[b]? =some (.mapIter bm since sa last)/\sa.toList=seen/\(match mp with|none=>bm=none|some m=>∃x y,bm=some x/\g.ρ m=some (x,y))
 | .loop nt tm ps aa bo st pe dd=>codeOk aa=true/\codeOk bo=true/\∃l:Loop,w.heap[b]? =some (.loop l)/\l.state=st/\l.pending=pe/\l.params.toList=ps/\l.assign=aa/\l.body=bo/\FR g nt tm.get l.tmps/\∃o',g.ρ dd=some (l.defers,o')
 | .dfr=>w.heap[b]? =some (.deferred (some []))
 | .ro cs=>∃(cur:Array Value) (e:TypeId) (fz:Nat×Nat),w.heap[b]? =some (.cells cur e fz)/\g.wb b=some (.cells cur e fz)/\∀j x,cs[j]? =some x->∃v,cur[o+j]? =some v/\(isU x=false->v.oneCell'=true/\VR g v x)
theorem Cells.mono {g g':Gh} (hle:g.le g') {w w':World} {id b o:Nat} {e:TypeId} {cs:List SV} (hρ:g.ρ id=some (b,o)) (h:Cells g w id b o e cs) (hw:w'.heap[b]? =w.heap[b]?):Cells g' w' id b o e cs:=by
 obtain ⟨⟨cur,h1,h0,vs,h2,h3⟩,h4⟩:=h;exact ⟨⟨cur,hw.trans h1,by rw[hle.lim _ _ hρ];exact h0,vs,h2.mono hle,h3⟩,(hle.et _ _ hρ).trans h4⟩
theorem OR.mono {g g':Gh} (hle:g.le g') {w w':World} {id b o:Nat} {x:SO} (hρ:g.ρ id=some (b,o)) (h:OR g w id b o x) (hw:w'.heap[b]? =w.heap[b]?):OR g' w' id b o x:=by
 cases x with
 |cells e cs=>exact Cells.mono hle hρ h hw
 |map es c=>obtain ⟨ms,h1,h2⟩:=h;exact ⟨ms,hw.trans h1,h2.mono hle⟩
 |ia s pos=>exact ⟨h.1,hw.trans h.2⟩
 |mapIter mp since seen last=>
  obtain ⟨h0,bm,sa,h1,h2,h3⟩:=h;refine ⟨h0,bm,sa,hw.trans h1,h2,?_⟩;cases mp with
  |none=>exact h3
  |some m=>obtain ⟨x,y,e1,e2⟩:=h3;exact ⟨x,y,e1,hle.ρ _ _ e2⟩
 |loop nt tm ps aa bo st pe dd=>
  obtain ⟨k1,k2,l,h1,h2,h3,h4,h5,h6,h7,o',h8⟩:=h;exact ⟨k1,k2,l,hw.trans h1,h2,h3,h4,h5,h6,h7.mono hle,o',hle.ρ _ _ h8⟩
 |dfr=>exact hw.trans h
 |ro cs=>
  obtain ⟨cur,e,fz,h1,h0,h2⟩:=h;refine ⟨cur,e,fz,hw.trans h1,(congrFun hle.wb b).trans h0,fun j x hx=> ?_⟩
  obtain ⟨v,a,b⟩:=h2 j x hx;exact ⟨v,a,fun hu=>⟨(b hu).1,(b hu).2.mono hle⟩⟩
structure HR (g:Gh) (hp:Hf) (w:World):Prop where
 ob:∀id o,hp id=some o->∃b c,g.ρ id=some (b,c)/\b<w.heap.size/\OR g w id b c o
 inj:∀i j x y b c d,hp i=some x->hp j=some y->g.ρ i=some (b,c)->g.ρ j=some (b,d)->i=j
def SF (g:Gh) (hp:Hf) (b:Nat):Prop:=∃id o c,hp id=some o/\g.ρ id=some (b,c)
structure Fr (g:Gh) (hp:Hf) (w:World) (g':Gh) (hp':Hf) (w':World):Prop where
 os:w'.os=w.os
 tape:w'.tape=w.tape
 output:w'.output=w.output
 size:w.heap.size<=w'.heap.size
 le:g.le g'
 old:∀b,b<w.heap.size->¬SF g hp b->w'.heap[b]? =w.heap[b]?
 own:∀b,b<w.heap.size->SF g' hp' b->SF g hp b
theorem Fr.refl (g:Gh) (hp:Hf) (w:World):Fr g hp w g hp w:=⟨rfl,rfl,rfl,Nat.le_refl _,.refl _,fun _ _ _=>rfl,fun _ _ h=>h⟩
theorem Fr.trans {g g1 g2:Gh} {h h1 h2:Hf} {w w1 w2:World} (a:Fr g h w g1 h1 w1) (b:Fr g1 h1 w1 g2 h2 w2):Fr g h w g2 h2 w2:=
 ⟨b.os.trans a.os,b.tape.trans a.tape,b.output.trans a.output,Nat.le_trans a.size b.size,a.le.trans b.le,
  fun k hk hn=>(b.old k (Nat.lt_of_lt_of_le hk a.size) (fun hm=>hn (a.own k hk hm))).trans (a.old k hk hn),
  fun k hk hm=>a.own k hk (b.own k (Nat.lt_of_lt_of_le hk a.size) hm)⟩
end
theorem Wy {e:SI} {n:Nat} (h:YK e=some n):e= .lit (.ofNat n):=by
 unfold YK at h;split at h
 ·simp at h;subst h;rfl
 ·simp at h
theorem kz {x:SV} {n:Nat} (h:eW x=some n):∃k,x= .int k (.lit (.ofNat n)):=by
 cases x<;>first|(exact ⟨_,by rw[Wy h]⟩)|cases h
theorem kY {x:SV} {b:Bool} (h:g6 x=some b):x= .bool b:=by cases x<;>cases h<;>rfl
theorem jt {x:SV} {p:IntKind×SI} (h:intOf x=some p):x= .int p.1 p.2:=by cases x<;>cases h<;>rfl
theorem fc {x:SV} {s:ByteArray} (h:strOf x=some s):x= .str s:=by cases x<;>cases h<;>rfl
theorem iB {x:SV} {q:Nat×Nat} (h:ld x=some q):x= .ptr q.1 q.2:=by cases x<;>cases h<;>rfl
theorem pn {x:SV} {cs:List SV} (h:uT x=some cs):x= .agg cs:=by cases x<;>cases h<;>rfl
theorem Qa {x:SV} {cs:List SV} (h:AA x=some cs):x= .tup cs:=by cases x<;>cases h<;>rfl
theorem E2 {x:SV} {i:Nat} (h:YM x=some i):x= .mp i:=by cases x<;>cases h<;>rfl
theorem Uz {x:SV} {q:Nat×Nat×Nat×Cp} (h:Yi x=some q):x= .sl q.1 q.2.1 q.2.2.1 q.2.2.2:=by cases x<;>cases h<;>rfl
theorem rp {x:SV} {n:Nat} (h:oq x=some n):(∃i o c,x= .sl i o n c)\/(x= .aU/\n=0)\/(x= .sle/\n=0):=by
 cases x<;>first|(cases h;exact .inl ⟨_,_,_,rfl⟩)|(cases h;exact .inr (.inl ⟨rfl,rfl⟩))|(cases h;exact .inr (.inr ⟨rfl,rfl⟩))|cases h
theorem QQ {x y:SV} (h:Bj x=some y):y=x/\((∃i o,x= .ptr i o)\/(∃f a c,x= .fn f a c)\/∃l,x= .yld l):=by
 cases x<;>first|(cases h;exact ⟨rfl,.inl ⟨_,_,rfl⟩⟩)|(cases h;exact ⟨rfl,.inr (.inl ⟨_,_,_,rfl⟩)⟩)|(cases h;exact ⟨rfl,.inr (.inr ⟨_,rfl⟩)⟩)|cases h
theorem jH {d:UD} {e:TypeId} (h:ja d=some e):d= .slice e:=by cases d<;>cases h<;>rfl
theorem vy {d:UD} {fs:List FL} (h:mP d=some fs):d= .struct fs:=by cases d<;>cases h<;>rfl
theorem vW {d:UD} {q:TypeId×TypeId} (h:ql d=some q):d= .map q.1 q.2:=by cases d<;>cases h<;>rfl
theorem N8 {d:UD} (h:nX d=true):d= .string:=by cases d<;>cases h<;>rfl
theorem KU {d:UD} (h:xI d=true):d= .bool:=by cases d<;>cases h<;>rfl
theorem jO {o:Option SO} {p:TypeId×List SV} (h:jF o=some p):o=some (.cells p.1 p.2):=by
 unfold jF at h;split at h
 ·simp at h;subst h;rfl
 ·simp at h
theorem nS {o:Option SO} {p:List (SV×SV×Nat)×Nat} (h:jc o=some p):o=some (.map p.1 p.2):=by
 unfold jc at h;split at h
 ·simp at h;subst h;rfl
 ·simp at h
theorem By {o:Option SO} {p:ByteArray×Nat} (h:rq o=some p):o=some (.ia p.1 p.2):=by
 unfold rq at h;split at h
 ·simp at h;subst h;rfl
 ·simp at h
theorem ey {a b:IntKind} (h:ct a b=true):a=b:=by
 cases a<;>cases b<;>first|rfl|(simp[ct] at h)
theorem QZ (a:IntKind):ct a a=true:=by cases a<;>rfl
theorem mY (a b:Int):uc a b=decide (a=b):=by
 cases a<;>cases b<;>simp[uc,beq_eq]
 rename_i m n;exact ⟨fun h=>by rw[h],fun h=>Int.ofNat.inj h⟩
theorem lM (a b:Int):ml a b=decide (a<b):=by
 cases a<;>cases b<;>simp only[ml,ble_eq,decide_eq_decide]
 ·rename_i m n;simp only[Int.ofNat_eq_natCast];omega
 ·rename_i m n;simp only[eq_comm (a:=false),decide_eq_false_iff_not,Int.ofNat_eq_natCast];omega
 ·rename_i m n;simp only[eq_comm (a:=true),decide_eq_true_eq,Int.ofNat_eq_natCast];omega
 ·rename_i m n;omega
theorem SI.n5 (η:Nat->Int):∀{a b:SI},a.eqb b=true->a.ev η=b.ev η
 | .lit a,.lit b,h=>by simpa[SI.eqb,mY,SI.ev] using h
 | .var a,.var b,h=>by have:=(beq_iff a b).1 h;subst this;rfl
 | .add k a b,.add k' a' b',h=>by
  simp only[SI.eqb,Bool.and_eq_true] at h;obtain ⟨h1,h2,h3⟩:=h;rw[SI.ev,SI.ev,ey h1,SI.n5 η h2,SI.n5 η h3]
 | .sub k a b,.sub k' a' b',h=>by
  simp only[SI.eqb,Bool.and_eq_true] at h;obtain ⟨h1,h2,h3⟩:=h;rw[SI.ev,SI.ev,ey h1,SI.n5 η h2,SI.n5 η h3]
 | .conv k a,.conv k' a',h=>by
  simp only[SI.eqb,Bool.and_eq_true] at h;obtain ⟨h1,h2⟩:=h;rw[SI.ev,SI.ev,ey h1,SI.n5 η h2]
 | .lit _,.var _,h| .lit _,.add _ _ _,h| .lit _,.sub _ _ _,h| .lit _,.conv _ _,h=>by simp[SI.eqb] at h
 | .var _,.lit _,h| .var _,.add _ _ _,h| .var _,.sub _ _ _,h| .var _,.conv _ _,h=>by simp[SI.eqb] at h
 | .add _ _ _,.lit _,h| .add _ _ _,.var _,h| .add _ _ _,.sub _ _ _,h| .add _ _ _,.conv _ _,h=>by simp[SI.eqb] at h
 | .sub _ _ _,.lit _,h| .sub _ _ _,.var _,h| .sub _ _ _,.add _ _ _,h| .sub _ _ _,.conv _ _,h=>by simp[SI.eqb] at h
 | .conv _ _,.lit _,h| .conv _ _,.var _,h| .conv _ _,.add _ _ _,h| .conv _ _,.sub _ _ _,h=>by simp[SI.eqb] at h
def qO (P:Program) (t:TypeId):UD->Prop
 | .bool=>P.underlying t=some .bool
 | .int k=>P.underlying t=some (.int k)
 | .string=>P.underlying t=some .string
 | .pointer=>∃e,P.underlying t=some (.pointer e)
 | .slice e=>P.underlying t=some (.slice e)
 | .array n e=>P.underlying t=some (.array n e)
 | .map k e=>P.underlying t=some (.map k e)
 | .struct fs=>∃a:Array Field,P.underlying t=some (.struct a)/\a.toList.map (fun f=>FL.mk f.type f.offset (decide (f.name≠ "_")))=fs/\∀f∈a.toList,(P.info? f.type).isSome=true
 | .func=>∃a b c,P.underlying t=some (.func a b c)
 | .interface=>∃ms,P.underlying t=some (.interface ms)
 | .other=>False
def Mn (agg:Bool) (z:Value) (cs:List SV):Prop:=
 (∀g,VCs g z.cells.toList cs)/\(agg=true->∃a,z= .agg a)/\(agg=false->z.oneCell'=true)
structure qJ (P:Program) (t:TypeId) (i:TI):Prop where
 desc:qO P t i.desc
 info:∃f z,P.info? t=some f/\f.size=i.size/\f.bytes=i.bytes/\f.comparable=i.comparable/\f.zero=some z/\Mn (eG i.desc) z i.zero/\(eG i.desc=true->i.zero.length=i.size)
structure bC (E:Env) (g:Gh):Prop where
 ty:∀t i,E.ty.get t=some i->qJ E.P t i
 fn:∀f x,E.fn.get f=some x->E.P.funcs[f]? =some x
 lt:∀a b r,(a,b,r)∈E.lt->decide (a.ev g.η<b.ev g.η)=r
 eq:∀a b r,(a,b,r)∈E.eq->decide (a.ev g.η=b.ev g.η)=r
 mix:E.P.follows .mixedOrders=true
 sz:∀t,g.sz t=E.P.cellsOf t
theorem bC.mono {E:Env} {g g':Gh} (h:bC E g) (hle:g.le g'):bC E g':=
 ⟨h.ty,h.fn,fun a b r hm=>by rw[hle.η];exact h.lt a b r hm,fun a b r hm=>by rw[hle.η];exact h.eq a b r hm,h.mix,fun t=>by rw[hle.sz];exact h.sz t⟩
theorem bC.size {E:Env} {g:Gh} (h:bC E g) {t:TypeId} {i:TI} (hi:E.ty.get t=some i):g.sz t=i.size:=by
 obtain ⟨f,z,h1,h2,_⟩:=(h.ty t i hi).info;rw[h.sz,Program.cellsOf,h1];simpa using h2
theorem zV {a b:SI} {η:Nat->Int} {Q:Int->Int->Bool->Prop}:∀{l:List (SI×SI×Bool)} {r:Bool},look a b l=some r->(∀x y r,(x,y,r)∈l->Q (x.ev η) (y.ev η) r)->Q (a.ev η) (b.ev η) r
 | [],_,h,_=>by simp[look] at h
 |(x,y,r')::l,r,h,hq=>by
  unfold look at h;rw[aC] at h;split at h
  ·rename_i hc;simp only[Bool.and_eq_true] at hc;simp at h;subst h;rw[<-SI.n5 η hc.1,<-SI.n5 η hc.2];exact hq x y r' (by simp)
  ·exact zV h fun x y r hm=>hq x y r (by simp[hm])
theorem mW {E:Env} {g:Gh} (hE:bC E g) {a b:SI} {r:Bool} (h:ltI E a b=some r):decide (a.ev g.η<b.ev g.η)=r:=by
 unfold ltI at h;split at h
 ·simp at h;subst h;rw[lM];rfl
 ·exact zV (Q:=fun x y r=>decide (x<y)=r) h hE.lt
theorem Ag {E:Env} {g:Gh} (hE:bC E g) {a b:SI} {r:Bool} (h:eqI E a b=some r):decide (a.ev g.η=b.ev g.η)=r:=by
 unfold eqI at h;split at h
 ·simp at h;subst h;rw[mY];rfl
 ·unfold eqS at h;rw[aC] at h;split at h
  ·rename_i hc;simp at h;subst h;rw[SI.n5 g.η hc];simp
  ·exact zV (Q:=fun x y r=>decide (x=y)=r) h hE.eq
theorem B5:∀(a b:List UInt8),jG a b=decide (a=b)
 | [],[]=>by simp[jG]
 | [],_::_=>by simp[jG]
 |_::_,[]=>by simp[jG]
 |a::l,b::m=>by
  rw[jG,B5 l m,beq_eq,Bool.eq_iff_iff];simp only[Bool.and_eq_true,decide_eq_true_eq,List.cons.injEq];rw[<-UInt8.toNat_inj]
theorem lX (a b:ByteArray):pT a b=decide (a=b):=by
 unfold pT;rw[B5,decide_eq_decide];constructor
 ·intro h;cases a with|mk a=>cases b with|mk b=>simp at h;simp[h]
 ·intro h;rw[h]
theorem qd {α:Type} {P:Program}:∀{s:Sem α} {a:α},cG P s=some a->∀w,s.run P w= .ok a w
 | .pure a,_,h,w=>by simp[cG] at h;subst h;rfl
 | .program k,a,h,w=>qd (s:=k P) h w
 | .load ..,_,h,_| .store ..,_,h,_| .new ..,_,h,_| .shape ..,_,h,_| .freeze ..,_,h,_| .frozen ..,_,h,_| .getObj ..,_,h,_| .setObj ..,_,h,_| .choose ..,_,h,_| .sys ..,_,h,_| .mark ..,_,h,_| .halt _,_,h,_=>by simp[cG] at h
mutual
theorem mC (g:Gh):∀(v:Value),VR g v (kB v)
 | .bool b=>.bool b
 | .int k n=>.int k _ rfl
 | .string s=>.str s
 | .pointer none=>.cU
 | .pointer (some _)=>.undef _
 | .slice none 0 0=>.aU
 | .slice none 0 (_+1)=>.undef _
 | .slice none (_+1) _=>.undef _
 | .slice (some _) _ _=>.undef _
 | .map none=>.cV
 | .map (some _)=>.undef _
 | .nilFunc=>.dt
 | .nilIface=>.cW
 | .agg ⟨cs⟩=>by
  unfold kB;rw[aC];split
  ·rename_i hc;refine .agg ?_;have hr:=sk g cs;refine VCs.mk hr.length fun j v x hv hx=> ?_
   obtain ⟨u,hu,hd⟩:=hr.get hx;have hv:cs[j]? =some v:=hv;rw[hv] at hu;obtain rfl:v=u:=by simpa using hu
   exact ⟨List.all_eq_true.1 hc v (List.mem_of_getElem? hv),hd⟩
  ·exact .undef _
 | .tuple ⟨cs⟩=>.tup (sk g cs)
 | .float _ _| .complex _ _ _| .chan _| .func _ _ _| .iface _ _=>.undef _
theorem sk (g:Gh):∀(vs:List Value),VRs g vs (g4 vs)
 | []=>.nil
 |v::vs=>.cons (mC g v) (sk g vs)
end
section
variable {E:Env} {g:Gh} {w:World}
theorem oJ {P:Program} {t:TypeId} {i:TI} (h:qJ P t i) (w:World):(isAgg t).run P w= .ok (eG i.desc) w:=by
 have hd:=h.desc;generalize i.desc=d at hd;cases d<;>simp only[qO] at hd
 case pointer=>obtain ⟨e,he⟩:=hd;simp only[isAgg,Sem.run_bind,run_underlying he,Result.andThen_ok];rfl
 case struct=>obtain ⟨e,he,_⟩:=hd;simp only[isAgg,Sem.run_bind,run_underlying he,Result.andThen_ok];rfl
 case func=>obtain ⟨_,_,_,he⟩:=hd;simp only[isAgg,Sem.run_bind,run_underlying he,Result.andThen_ok];rfl
 case interface=>obtain ⟨e,he⟩:=hd;simp only[isAgg,Sem.run_bind,run_underlying he,Result.andThen_ok];rfl
 all_goals (simp only[isAgg,Sem.run_bind,run_underlying hd,Result.andThen_ok];rfl)
theorem gu {P:Program} {t:TypeId} {i:TI} (h:qJ P t i) (w:World):(sizeOf t).run P w= .ok i.size w:=by
 obtain ⟨f,z,h1,h2,_⟩:=h.info;simp[sizeOf,typeInfo,h1,h2]
theorem zG {P:Program} {t:TypeId} {i:TI} (h:qJ P t i):∃z,(∀w,(zeroValue t).run P w= .ok z w)/\Mn (eG i.desc) z i.zero/\(eG i.desc=true->i.zero.length=i.size):=by
 obtain ⟨f,z,h1,_,_,_,h5,h6⟩:=h.info;exact ⟨z,fun w=>by simp[zeroValue,typeInfo,h1,h5],h6⟩
theorem oO {P:Program} {t:TypeId} {i:TI} (hi:qJ P t i) {cs:List SV} {off:Nat} {x:SV} {vs:Array Value} (h:cO i cs off=some x) (hc:VCs g vs.toList cs) (w:World):
  ∃v,(part t vs off).run P w= .ok v w/\VR g v x:=by
 unfold cO at h;rw[aC] at h;split at h
 ·rename_i ha;obtain ⟨hl,h⟩:=ar h;simp at h;subst h;refine ⟨.agg (vs.extract off (off+i.size)),?_,.agg ?_⟩
  ·simp only[part,Sem.run_bind,oJ hi,Result.andThen_ok,ha,if_true,gu hi,Sem.run_pure]
  ·have:(vs.extract off (off+i.size)).toList=(vs.toList.drop off).take i.size:=by simp[List.extract_eq_take_drop]
   rw[this];exact (hc.drop off).take _
 ·rename_i ha;obtain ⟨v,hv,_,hd⟩:=hc.get h;refine ⟨v,?_,hd⟩;have hv':vs[off]? =some v:=by simpa using hv
  have ha:eG i.desc=false:=by simpa using ha
  simp only[part,Sem.run_bind,oJ hi,Result.andThen_ok,ha,Bool.false_eq_true,if_false,hv',Sem.run_pure]
theorem Bf {i:TI} {z:Value} (hz:Mn (eG i.desc) z i.zero) (hl:eG i.desc=true->i.zero.length=i.size) {x:SV} (h:cO i i.zero 0=some x):VR g z x:=by
 unfold cO at h;rw[aC] at h;obtain ⟨h1,h2,h3⟩:=hz;split at h
 ·rename_i ha;obtain ⟨_,h⟩:=ar h;simp at h;subst h;obtain ⟨a,rfl⟩:=h2 ha;rw[<-hl ha,List.take_length];exact .agg (h1 g)
 ·rename_i ha;have ho:=h3 (by simpa using ha)
  obtain ⟨v,hv,_,hd⟩:=(h1 g).get h;have:z.cells= #[z]:=by cases z<;>first|rfl|(simp[Value.oneCell'] at ho)
  rw[this] at hv;simp at hv;subst hv;exact hd
theorem VR.cL {v:Value} {x:SV} {cs:List SV} (h:VR g v x) (hx:x.cells=some cs):VCs g v.cells.toList cs:=by
 cases h with
 |agg h=>cases hx;exact h
 |tup h=>cases hx
 |undef v=>cases hx
 |bool b=>cases hx;exact .cons rfl (.bool b) .nil
 |int k e h=>cases hx;exact .cons rfl (.int k e h) .nil
 |str s=>cases hx;exact .cons rfl (.str s) .nil
 |ptr h=>cases hx;exact .cons rfl (.ptr h) .nil
 |cU=>cases hx;exact .cons rfl .cU .nil
 |sl a b c d=>cases hx;exact .cons rfl (.sl a b c d) .nil
 |sle=>cases hx;exact .cons rfl .sle .nil
 |aU=>cases hx;exact .cons rfl .aU .nil
 |mp h=>cases hx;exact .cons rfl (.mp h) .nil
 |cV=>cases hx;exact .cons rfl .cV .nil
 |fn a b=>cases hx;exact .cons rfl (.fn a b) .nil
 |yld h=>cases hx;exact .cons rfl (.yld h) .nil
 |dt=>cases hx;exact .cons rfl .dt .nil
 |ifc h=>cases hx;exact .cons rfl (.ifc h) .nil
 |cW=>cases hx;exact .cons rfl .cW .nil
theorem jX {nt:Nat} {tm:Tf} {a:Act} (h:FR g nt tm a.tmps) {x:Operand} {v:SV} (hv:aM tm x=some v):VR g (a.eval x) v:=by
 cases x with
 |tmp t=>exact h.tm t v hv
 |const u=>cases hv;exact mC g u
 |global _=>cases hv
 |func f=>cases hv;exact .fn .nil .nil
theorem nM {nt:Nat} {tm:Tf} {a:Act} (h:FR g nt tm a.tmps):∀{xs:List Operand} {vs:List SV},bT tm xs=some vs->VRs g (xs.map a.eval) vs
 | [],_,hv=>by cases hv;exact .nil
 |x::xs,vs,hv=>by
  obtain ⟨v,l,h1,h2,h3⟩:=az hv;cases h3;exact .cons (jX h h1) (nM h h2)
theorem Ml {r k:Option Bool} {b:Bool} (h:andThen r k=some b):(r=some true/\k=some b)\/(r=some false/\b=false):=by
 cases r with
 |none=>simp[andThen] at h
 |some c=>cases c<;>simp[andThen] at h<;>simp[h]
theorem Fq {E:Env} (hE:bC E g) {eq:TypeId->SV->SV->Option Bool} {m:Nat} (heq:∀(t:TypeId) (x y:SV) (b:Bool),eq t x y=some b->∀(u v:Value),VR g u x->VR g v y->∀w,(Op.equalIn m t u v).run E.P w= .ok b w)
  {us vs:Array Value} {xs ys:List SV} (hx:VCs g us.toList xs) (hy:VCs g vs.toList ys):∀(l:List Field) (b:Bool),uG E eq xs ys (l.map fun f=>FL.mk f.type f.offset (decide (f.name≠ "_")))=some b->∀w,(Op.eqFields m us vs l).run E.P w= .ok b w
 | [],b,h,w=>by cases h;simp[Op.eqFields]
 |f::l,b,h,w=>by
  simp only[List.map_cons,uG] at h;obtain ⟨hn,h⟩:=ar h;obtain ⟨i,hi,h⟩:=af h;obtain ⟨x,y,hpx,hpy,h⟩:=az h;have BL:f.name≠ "_" :=by simpa using hn
  obtain ⟨v1,hr1,hd1⟩:=oO (hE.ty _ _ hi) hpx hx w;obtain ⟨v2,hr2,hd2⟩:=oO (hE.ty _ _ hi) hpy hy w;rcases Ml h with ⟨h1,h2⟩|⟨h1,rfl⟩
  ·have he:=heq _ _ _ _ h1 v1 v2 hd1 hd2 w;simp only[Op.eqFields,if_pos BL,Sem.run_bind,hr1,hr2,he,Result.andThen_ok,Sem.run_ite,Sem.run_pure];simpa using Fq hE heq hx hy l b h2 w
  ·have he:=heq _ _ _ _ h1 v1 v2 hd1 hd2 w;simp only[Op.eqFields,if_pos BL,Sem.run_bind,hr1,hr2,he,Result.andThen_ok,Sem.run_ite,Sem.run_pure];simp
theorem Af {E:Env} (hE:bC E g):∀(n:Nat) (t:TypeId) (x y:SV) (b:Bool),eqT E n t x y=some b->∀(u v:Value),VR g u x->VR g v y->∀(d:Nat) (w:World),(Op.equalIn (n+d) t u v).run E.P w= .ok b w
 |0,_,_,_,_,h=>by cases h
 |n+1,t,x,y,b,h=>by
  intro u v hu hv d w;have hnd:n+1+d=(n+d)+1:=by omega
  rw[hnd];obtain ⟨i,hi,h⟩:=af (show aj (E.ty.get t) (fun i=>eqD i.desc E (eqT E n) t x y)=some b from h)
  have hT:=hE.ty t i hi;have hd:=hT.desc;generalize i.desc=D at hd h;cases D with
  |bool=>
   obtain ⟨p,q,h1,h2,h3⟩:=az (show aG (g6 x) (g6 y) _=some b from h);obtain rfl:=kY h1;obtain rfl:=kY h2;cases hu;cases hv;cases h3;exact run_equalIn_bool' w _ t _ _ hd
  |int k=>
   obtain ⟨p,q,h1,h2,h3⟩:=az (show aG (intOf x) (intOf y) _=some b from h);obtain ⟨hk,h3⟩:=ar h3;obtain rfl:=jt h1;obtain rfl:=jt h2;have hk:=ey hk;have hb:=Ag hE h3;cases hu with|int _ _ e1=>cases hv with|int _ _ e2=>
   rw[hk,run_equalIn_int w _ t _ _ _ _ hd,e1,e2,<-hb];congr 1
  |string=>
   obtain ⟨p,q,h1,h2,h3⟩:=az (show aG (strOf x) (strOf y) _=some b from h);obtain rfl:=fc h1;obtain rfl:=fc h2;cases hu;cases hv;cases h3;rw[run_equalIn_string w _ t _ _ hd,lX];congr 1;rw[ByteArray.toList_eq,ByteArray.toList_eq,Bool.eq_iff_iff];simp only[beq_iff_eq,decide_eq_true_eq];constructor
   ·intro h;cases p with|mk a=>cases q with|mk c=>simp at h;simp[h]
   ·intro h;rw[h]
  |pointer=>
   obtain ⟨e,hd⟩:=hd;have h:Gn x y=some b:=h;unfold Gn at h;split at h<;>first|(cases hu;cases hv;cases h;simp[Op.equalIn,run_underlying hd];done)|(simp at h)
  |slice e=>
   have h:El x y=some b:=h;unfold El at h;split at h<;>first|(cases hu;cases hv;cases h;simp[Op.equalIn,run_underlying hd];done)|(simp at h)
  |array _ _=>cases h
  |map _ _=>
   have h:Gp x y=some b:=h;unfold Gp at h;split at h<;>first|(cases hu;cases hv;cases h;simp[Op.equalIn,run_underlying hd];done)|(simp at h)
  |struct fs=>
   obtain ⟨a,hd,hfs,_⟩:=hd;obtain ⟨p,h1,h2⟩:=af (show aj (Xz x y) _=some b from h);obtain ⟨xs,ys,h3,h4,h5⟩:=az h1;cases h5;obtain rfl:=pn h3;obtain rfl:=pn h4;rw[aC] at h2;split at h2
   ·simp at h2
   ·rename_i hp;have hp:E.P.stoodInHeld t=false:=by simpa using hp
    cases hu with|agg hx=>cases hv with|agg hy=>
    have hf:E.P.fieldsOf t=a:=by simp[Program.fieldsOf,hd]
    rw[run_equalIn_struct w _ t _ _ (by rw[hf];exact hd) hp,hf]
    subst hfs;exact Fq hE (fun t x y b h u v hu hv w=>Af hE n t x y b h u v hu hv d w) hx hy a.toList b h2 w
  |func=>
   obtain ⟨_,_,_,hd⟩:=hd;have h:RY x y=some b:=h;unfold RY at h;split at h<;>first|(cases hu;cases hv;cases h;simp[Op.equalIn,run_underlying hd];done)|(simp at h)
  |interface=>
   obtain ⟨ms,hd⟩:=hd;have hq:Gq E (eqT E n) x y=some b:=h;unfold Gq at hq;split at hq
   ·cases hu;cases hv;cases hq;simp[Op.equalIn,run_underlying hd]
   ·cases hu;cases hv;cases hq;simp[Op.equalIn,run_underlying hd]
   ·cases hu;cases hv;cases hq;simp[Op.equalIn,run_underlying hd]
   ·rename_i t1 v1 t2 v2 _;cases hu with|ifc h1=>cases hv with|ifc h2=>
    rw[aC] at hq;split at hq
    ·rename_i ht;have ht:=(beq_iff _ _).1 ht;subst ht;obtain ⟨i1,hi1,hq⟩:=af hq;obtain ⟨hc,hq⟩:=ar hq;obtain ⟨f,z,q1,_,_,q4,_⟩:=(hE.ty _ _ hi1).info;have:=Af hE n t1 v1 v2 b hq _ _ h1 h2 d w;have hinf:(typeInfo t1).run E.P w= .ok f w:=by simp[typeInfo,q1]
     have hcc:f.comparable=true:=by rw[q4];exact hc
     simp[Op.equalIn,run_underlying hd,hinf,hcc,this]
    ·rename_i ht;have ht:t1≠t2:=fun e=>ht ((beq_iff _ _).2 e)
     obtain rfl:false=b:=by simpa using hq
     simp[Op.equalIn,run_underlying hd,ht]
   ·simp at hq
  |other=>exact hd.elim
end
section
variable {E:Env} {g:Gh} {w:World}
theorem afb (η:Nat->Int) (k:IntKind) (a b:SI):(Mm k a b).ev η=k.wrap (a.ev η+b.ev η):=by
 unfold Mm;split<;>rfl
theorem Oq (η:Nat->Int) (k:IntKind) (a b:SI):(zD k a b).ev η=k.wrap (a.ev η - b.ev η):=by
 unfold zD;split<;>rfl
theorem Z3 (η:Nat->Int) (k:IntKind) (a:SI):(Gw k a).ev η=k.wrap (a.ev η):=by
 unfold Gw;split<;>rfl
theorem si {P : Program} {op : BinOp} {t : TypeId} {x y : Operand} {a b : Value} (h : P.eqGuardType P.depth t = false \/ (∀ cs, a ≠ .agg cs)) (h2 : a ≠ .nilIface \/ (isConst x || isConst y) = true) (w : World) : (eqGuard op t x y a b).run P w = .ok () w := by
  cases a <;> first
    | (cases op <;> rfl)
    | (rcases h2 with h2 | h2
       · exact absurd rfl h2
       · cases b <;> first
           | (cases op <;> rfl)
           | (cases op <;> first | rfl | (cases x <;> cases y <;> first | rfl | (simp [isConst] at h2)))
       )
    | (rcases h with h | h
       · cases b <;> first | (cases op <;> rfl) | exact run_eqGuard_agg w op t x y _ _ h
       · exact absurd rfl (h _))
theorem iL {neg:Bool} {r:Option Bool} {z:SV} (h:eK neg r=some z):∃b,r=some b/\z= .bool (if neg then !b else b):=by
 obtain ⟨b,h1,h2⟩:=af h;cases h2;exact ⟨b,h1,by cases neg<;>rfl⟩
theorem A5 {r:Option Value} {z:SV} (h:fQ r=some z):∃v,r=some v/\z=kB v:=by
 obtain ⟨v,h1,h2⟩:=af h;cases h2;exact ⟨v,h1,rfl⟩
theorem Xf (E:Env) (eq:TypeId->SV->SV->Option Bool) (t:TypeId) (d:UD) (y:SV):eqD d E eq t .undef y=none:=by
 cases d<;>rfl
theorem Xe (E:Env) (n:Nat) (t:TypeId) (y:SV):eqT E n t .undef y=none:=by
 cases n with
 |zero=>rfl
 |succ n=>
  show aj (E.ty.get t) (fun i=>eqD i.desc E (eqT E n) t .undef y)=none
  cases E.ty.get t with
  |none=>rfl
  |some i=>exact Xf _ _ _ _ _
theorem QS {op:BinOp} {t:TypeId} {k k':IntKind} {a b:SI} {z:SV} (h:lj E op t k k' a b=some z):∃m n v,a= .lit m/\b= .lit n/\cG E.P (binOp op t (.int k m) (.int k' n))=some v/\z=kB v:=by
 unfold lj at h;split at h
 ·rename_i m n;obtain ⟨v,h1,h2⟩:=A5 h;exact ⟨m,n,v,rfl,rfl,h1,h2⟩
 ·simp at h
theorem W3 (x y:Int):(x==y)=decide (x=y):=by rw[Bool.eq_iff_iff];simp
theorem decLe (x y:Int):decide (x<=y)= !decide (y<x):=by rw[Bool.eq_iff_iff];simp
theorem VR.rK {b c:Bool} (h:b=c):VR g (.bool b) (.bool c):=by subst h;exact .bool b
theorem Rj (hE:bC E g) {op:BinOp} {t:TypeId} {k k':IntKind} {a b:SI} {z:SV} (h:Gd op E op t k k' a b=some z) (w:World):
  ∃r,(binOp op t (.int k (a.ev g.η)) (.int k' (b.ev g.η))).run E.P w= .ok r w/\VR g r z:=by
 have lit:lj E op t k k' a b=some z->∃r,(binOp op t (.int k (a.ev g.η)) (.int k' (b.ev g.η))).run E.P w= .ok r w/\VR g r z:=by
  intro h;obtain ⟨m,n,v,rfl,rfl,h1,rfl⟩:=QS h;exact ⟨v,qd h1 w,mC g v⟩
 cases op with
 |add=>
  obtain ⟨hk,h⟩:=ar (show sel (ct k k') (some (SV.int k (Mm k a b))) none=some z from h);cases h;obtain rfl:=ey hk;exact ⟨_,by simp[binOp,Op.intArith]<;>rfl,.int _ _ (afb _ _ _ _).symm⟩
 |sub=>
  obtain ⟨hk,h⟩:=ar (show sel (ct k k') (some (SV.int k (zD k a b))) none=some z from h);cases h;obtain rfl:=ey hk;exact ⟨_,by simp[binOp,Op.intArith]<;>rfl,.int _ _ (Oq _ _ _ _).symm⟩
 |eql=>
  obtain ⟨hk,h⟩:=ar (show sel (ct k k') (eK false (eqI E a b)) none=some z from h);obtain ⟨c,h1,rfl⟩:=iL h;obtain rfl:=ey hk;exact ⟨_,by simp[binOp,Op.intCmp]<;>rfl,VR.rK (by have:=Ag hE h1;rw[W3,this];rfl)⟩
 |neq=>
  obtain ⟨hk,h⟩:=ar (show sel (ct k k') (eK true (eqI E a b)) none=some z from h);obtain ⟨c,h1,rfl⟩:=iL h;obtain rfl:=ey hk;exact ⟨_,by simp[binOp,Op.intCmp]<;>rfl,VR.rK (by have:=Ag hE h1;rw[<-this,<-W3];rfl)⟩
 |lss=>
  obtain ⟨hk,h⟩:=ar (show sel (ct k k') (eK false (ltI E a b)) none=some z from h);obtain ⟨c,h1,rfl⟩:=iL h;obtain rfl:=ey hk;exact ⟨_,by simp[binOp,Op.intCmp]<;>rfl,VR.rK (by have:=mW hE h1;simpa using this)⟩
 |gtr=>
  obtain ⟨hk,h⟩:=ar (show sel (ct k k') (eK false (ltI E b a)) none=some z from h);obtain ⟨c,h1,rfl⟩:=iL h;obtain rfl:=ey hk;exact ⟨_,by simp[binOp,Op.intCmp]<;>rfl,VR.rK (by have:=mW hE h1;simpa using this)⟩
 |leq=>
  obtain ⟨hk,h⟩:=ar (show sel (ct k k') (eK true (ltI E b a)) none=some z from h);obtain ⟨c,h1,rfl⟩:=iL h;obtain rfl:=ey hk;exact ⟨_,by simp[binOp,Op.intCmp]<;>rfl,VR.rK (by have:=mW hE h1;rw[<-this];first|exact decLe _ _|(rw[<-decLe];rfl))⟩
 |geq=>
  obtain ⟨hk,h⟩:=ar (show sel (ct k k') (eK true (ltI E a b)) none=some z from h);obtain ⟨c,h1,rfl⟩:=iL h;obtain rfl:=ey hk;exact ⟨_,by simp[binOp,Op.intCmp]<;>rfl,VR.rK (by have:=mW hE h1;rw[<-this];first|exact decLe _ _|(rw[<-decLe];rfl))⟩
 |_=>exact lit h
theorem Qf {op:BinOp} {t:TypeId} {a b:ByteArray} {z:SV} (h:Qg op E op t a b=some z) (w:World):
  ∃r,(binOp op t (.string a) (.string b)).run E.P w= .ok r w/\VR g r z:=by
 have lit:fQ (cG E.P (binOp op t (.string a) (.string b)))=some z->∃r,(binOp op t (.string a) (.string b)).run E.P w= .ok r w/\VR g r z:=by
  intro h;obtain ⟨v,h1,rfl⟩:=A5 h;exact ⟨v,qd h1 w,mC g v⟩
 have hb:(a.toList==b.toList)=decide (a=b):=by
  rw[ByteArray.toList_eq,ByteArray.toList_eq,Bool.eq_iff_iff];simp only[beq_iff_eq,decide_eq_true_eq];constructor
  ·intro h;cases a with|mk a=>cases b with|mk c=>simp at h;simp[h]
  ·intro h;rw[h]
 cases op with
 |eql=>cases h;exact ⟨_,by simp[binOp,Op.stringOp]<;>rfl,VR.rK (by rw[lX];simpa using hb)⟩
 |neq=>cases h;exact ⟨.bool (!(a.toList==b.toList)),by simp[binOp,Op.stringOp,bne],VR.rK (by rw[lX,hb])⟩
 |_=>exact lit h
theorem FP {P:Program} {t:TypeId} {a b:Value} (h1:∀k n,a≠ .int k n) (h2:∀k n,a≠ .float k n) (h3:∀k n m,a≠ .complex k n m) (h4:∀s,a≠ .string s) (w:World):
  (binOp .eql t a b).run P w=((Op.equalIn 10000 t a b).run P w).andThen fun r w'=>.ok (.bool r) w':=by
 cases a<;>first|exact absurd rfl (h1 _ _)|exact absurd rfl (h2 _ _)|exact absurd rfl (h3 _ _ _)|exact absurd rfl (h4 _)|(simp only[binOp];simp[Op.equal,Op.maxDepth])
theorem FO {P:Program} {t:TypeId} {a b:Value} (h1:∀k n,a≠ .int k n) (h2:∀k n,a≠ .float k n) (h3:∀k n m,a≠ .complex k n m) (h4:∀s,a≠ .string s) (w:World):
  (binOp .neq t a b).run P w=((Op.equalIn 10000 t a b).run P w).andThen fun r w'=>.ok (.bool (!r)) w':=by
 cases a<;>first|exact absurd rfl (h1 _ _)|exact absurd rfl (h2 _ _)|exact absurd rfl (h3 _ _ _)|exact absurd rfl (h4 _)|(simp only[binOp];simp[Op.equal,Op.maxDepth])
theorem Kk (hE:bC E g) {op:BinOp} {t:TypeId} {ox oy:Operand} {x y z:SV} {u v:Value} (hx:∀k e,x≠ .int k e) (hs:∀s,x≠ .str s) (h:eD op E t ox oy x y=some z) (hu:VR g u x) (hv:VR g v y) (w:World):
  ∃r,(do eqGuard op t ox oy u v;binOp op t u v:Sem Value).run E.P w= .ok r w/\VR g r z:=by
 have key:∀b,uF E t ox oy x y=some b->(eqGuard op t ox oy u v).run E.P w= .ok () w/\(∀w,(binOp .eql t u v).run E.P w= .ok (.bool b) w)/\(∀w,(binOp .neq t u v).run E.P w= .ok (.bool (!b)) w):=by
  intro b he;obtain ⟨hok,he⟩:=ar he;have fj:=fun w=>Af hE 20 t x y b he u v hu hv 9980 w
  simp only[show 20+9980=10000 from rfl] at fj;have hnu:x≠ .undef:=fun e=>by rw[e,Xe] at he;simp at he
  have ago:(∀k n,u≠ .int k n)/\(∀k n,u≠ .float k n)/\(∀k n m,u≠ .complex k n m)/\(∀s,u≠ .string s)/\(E.P.eqGuardType E.P.depth t=false\/(∀cs,u≠ .agg cs))/\(u≠ .nilIface\/(isConst ox||isConst oy)=true):=by
   cases hu<;>first|exact absurd rfl (hx _ _)|exact absurd rfl (hs _)|exact absurd rfl hnu|(simp;done)|(simp[ZO] at hok;simp[hok])
  obtain ⟨f1,f2,f3,f4,f5,f6⟩:=ago;refine ⟨si f5 f6 w,fun w=> ?_,fun w=> ?_⟩
  ·rw[FP f1 f2 f3 f4,fj];rfl
  ·rw[FO f1 f2 f3 f4,fj];rfl
 cases op with
 |eql=>
  obtain ⟨b,h1,rfl⟩:=iL (show eK false (uF E t ox oy x y)=some z from h);obtain ⟨k1,k2,k3⟩:=key b h1;exact ⟨.bool b,by simp only[Sem.run_bind,k1,Result.andThen_ok,k2],.bool b⟩
 |neq=>
  obtain ⟨b,h1,rfl⟩:=iL (show eK true (uF E t ox oy x y)=some z from h);obtain ⟨k1,k2,k3⟩:=key b h1;exact ⟨.bool (!b),by simp only[Sem.run_bind,k1,Result.andThen_ok,k3],.bool (!b)⟩
 |_=>cases h
theorem Xq (hE:bC E g) {op:BinOp} {t:TypeId} {ox oy:Operand} {x y z:SV} {u v:Value} (h:sq E op t ox oy x y=some z) (hu:VR g u x) (hv:VR g v y) (w:World):
  ∃r,(do eqGuard op t ox oy u v;binOp op t u v:Sem Value).run E.P w= .ok r w/\VR g r z:=by
 by_cases hx:∃k e,x= .int k e
 ·obtain ⟨k,a,rfl⟩:=hx;obtain ⟨p,h1,h2⟩:=af (show aj (intOf y) (fun p=>Gd op E op t k p.1 a p.2)=some z from h)
  obtain rfl:=jt h1;cases hu with|int _ _ e1=>cases hv with|int _ _ e2=>
  subst e1;subst e2;obtain ⟨r,q1,q2⟩:=Rj hE h2 w;exact ⟨r,by rw[Sem.run_bind,si (P:=E.P) (a:=.int k (a.ev g.η)) (.inr (by simp)) (.inl (by simp))];exact q1,q2⟩
 ·by_cases hs:∃s,x= .str s
  ·obtain ⟨s,rfl⟩:=hs;obtain ⟨b,h1,h2⟩:=af (show aj (strOf y) (fun b=>Qg op E op t s b)=some z from h)
   obtain rfl:=fc h1;cases hu;cases hv;obtain ⟨r,q1,q2⟩:=Qf (g:=g) h2 w;exact ⟨r,by rw[Sem.run_bind,si (P:=E.P) (a:=.string s) (.inr (by simp)) (.inl (by simp))];exact q1,q2⟩
  ·have hx':∀k e,x≠ .int k e:=fun k e q=>hx ⟨k,e,q⟩
   have hs':∀s,x≠ .str s:=fun s q=>hs ⟨s,q⟩
   refine Kk hE hx' hs' ?_ hu hv w;cases x<;>first|exact absurd rfl (hx' _ _)|exact absurd rfl (hs' _)|exact h
theorem TT {P:Program} {t:TypeId} {i:TI} (h:qJ P t i):∃d,P.underlying t=some d:=by
 have hd:=h.desc;generalize i.desc=d at hd;cases d<;>simp only[qO] at hd<;>first|exact ⟨_,hd⟩|exact ⟨_,hd.choose_spec⟩|exact ⟨_,hd.choose_spec.1⟩|exact ⟨_,hd.choose_spec.choose_spec.choose_spec⟩
theorem Sa (hE:bC E g) {src dst:TypeId} {x z:SV} {u:Value} (h:B1 E src dst x=some z) (hu:VR g u x) (w:World):∃r,(convert src dst u).run E.P w= .ok r w/\VR g r z:=by
 obtain ⟨i,j,hi,hj,h⟩:=az h;obtain ⟨d1,hd1⟩:=TT (hE.ty _ _ hi);have hd:=(hE.ty _ _ hj).desc;generalize j.desc=D at hd h;cases D with
 |int k=>
  obtain ⟨p,h1,h2⟩:=af (show aj (intOf x) (fun p=>some (SV.int k (Gw k p.2)))=some z from h)
  cases h2;obtain rfl:=jt h1;cases hu with|int _ _ e1=>
  subst e1;exact ⟨_,by simp[convert,run_underlying hd1,run_underlying hd,Conv.intToInt]<;>rfl,.int _ _ (Z3 _ _ _).symm⟩
 |string=>
  obtain ⟨s,h1,h2⟩:=af (show aj (strOf x) (fun s=>some (SV.str s))=some z from h)
  cases h2;obtain rfl:=fc h1;cases hu;exact ⟨_,by simp[convert,run_underlying hd1,run_underlying hd]<;>rfl,.str _⟩
 |_=>cases h
theorem X9 {op:UnOp} {x z:SV} {u:Value} (h:unA op x=some z) (hu:VR g u x) {P:Program} (w:World):∃r,(Op.unary op u).run P w= .ok r w/\VR g r z:=by
 cases hu with
 |bool b=>
  obtain ⟨h1,h2⟩:=ar (show sel (BB op) (some (SV.bool (!b))) none=some z from h);cases h2;cases op<;>first|(simp[BB] at h1;done)|exact ⟨_,rfl,.bool _⟩
 |int k e he=>
  obtain ⟨h1,h2⟩:=ar (show sel (isNeg op) (some (SV.int k (zD k (.lit 0) e))) none=some z from h);cases h2;subst he;cases op<;>first|(simp[isNeg] at h1;done)|exact ⟨.int k (k.wrap (0-e.ev g.η)),by simp[Op.unary,Op.intArith],.int _ _ (by rw[Oq];simp only[SI.ev])⟩
 |_=>cases h
end
section
variable {E:Env} {g:Gh} {f:Hf} {w:World}
def upF (f:Hf) (u:Up):Hf:=fun j=>if j=u.1 then u.2 else f j
def gF (f:Hf):List Up->Hf
 | []=>f
 |u::us=>gF (upF f u) us
theorem afo (h:Hs) (u:Up):(h.up u).hp.get=upF h.hp.get u:=funext fun j=>Tr.dv _ _ _ _
theorem xo:∀(us:List Up) (h:Hs),(h.ups us).hp.get=gF h.hp.get us
 | [],_=>rfl
 |u::us,h=>by
  show ((h.up u).ups us).hp.get=_;rw[xo us,afo];rfl
theorem pQ:∀(us:List Up) (h:Hs),(h.ups us).nx=h.nx
 | [],_=>rfl
 |u::us,h=>by
  show ((h.up u).ups us).nx=_;rw[pQ us];rfl
def Gh.bind (g:Gh) (id:Nat) (p:Nat×Nat) (l:Nat) (e:TypeId):Gh:=⟨g.η,g.sz,fun j=>if j=id then some p else g.ρ j,fun j=>if j=id then l else g.lim j,fun j=>if j=id then e else g.et j,g.wb⟩
theorem Gh.sZ {id:Nat} {p:Nat×Nat} {l:Nat} {e:TypeId} (h:g.ρ id=none):g.le (g.bind id p l e):=by
 have key:∀j q,g.ρ j=some q->j≠id:=fun j q hq e=>by subst e;rw[h] at hq;simp at hq
 refine ⟨rfl,rfl,fun j q hq=> ?_,fun j q hq=> ?_,fun j q hq=> ?_,rfl⟩
 ·show (if j=id then some p else g.ρ j)=some q
  rw[if_neg (key j q hq)];exact hq
 ·exact if_neg (key j q hq)
 ·exact if_neg (key j q hq)
theorem Gh.da (g:Gh) (id:Nat) (p:Nat×Nat) (l:Nat) (e:TypeId):(g.bind id p l e).ρ id=some p:=by simp[Gh.bind]
theorem Gh.uO (g:Gh) (id:Nat) (p:Nat×Nat) (l:Nat) (e:TypeId):(g.bind id p l e).lim id=l:=by simp[Gh.bind]
theorem Gh.xR (g:Gh) (id:Nat) (p:Nat×Nat) (l:Nat) (e:TypeId):(g.bind id p l e).et id=e:=by simp[Gh.bind]
theorem Gh.dQ (g:Gh) {id j:Nat} (p:Nat×Nat) (l:Nat) (e:TypeId) (h:j≠id):(g.bind id p l e).ρ j=g.ρ j:=by simp[Gh.bind,h]
theorem HR.sW (h:HR g f w) {id:Nat} (hn:g.ρ id=none):f id=none:=by
 cases hf:f id with
 |none=>rfl
 |some o=>
  obtain ⟨b,c,h1,_⟩:=h.ob id o hf;rw[hn] at h1;simp at h1
theorem HR.sub (h:HR g f w) {f':Hf} (hs:∀id o,f' id=some o->f id=some o):HR g f' w:=
 ⟨fun id o ho=>h.ob id o (hs id o ho),fun i j x y b c d hx hy h1 h2=>h.inj i j x y b c d (hs i x hx) (hs j y hy) h1 h2⟩
theorem HR.write (h:HR g f w) {id b c:Nat} {o o':SO} {w':World} (hf:f id=some o) (hρ:g.ρ id=some (b,c)) (hsz:w'.heap.size=w.heap.size)
  (wh:∀k,k≠b->w'.heap[k]? =w.heap[k]?) (hor:OR g w' id b c o') (h1:w'.os=w.os) (h2:w'.tape=w.tape) (h3:w'.output=w.output):
  HR g (upF f (id,some o')) w'/\Fr g f w g (upF f (id,some o')) w':=by
 have hb:b<w.heap.size:=by
  obtain ⟨b',c',q1,q2,_⟩:=h.ob id o hf;rw[hρ] at q1;obtain ⟨rfl,rfl⟩:b=b'/\c=c':=by simpa using q1
  exact q2
 refine ⟨⟨fun j x hx=> ?_,fun i j x y b1 c1 d1 hx hy e1 e2=> ?_⟩,⟨h1,h2,h3,by omega,.refl _,fun k hk hn=>wh k (fun e=>hn ⟨id,o,c,hf,by rw[e];exact hρ⟩),fun k hk hm=> ?_⟩⟩
 ·simp only[upF] at hx;split at hx
  ·rename_i e;subst e;cases hx;exact ⟨b,c,hρ,by omega,hor⟩
  ·rename_i e;obtain ⟨b1,c1,q1,q2,q3⟩:=h.ob j x hx;refine ⟨b1,c1,q1,by omega,q3.mono (.refl _) q1 (wh b1 (fun e'=> ?_))⟩
   subst e';exact e (h.inj j id x o b1 c1 c hx hf q1 hρ)
 ·have key:∀k z,upF f (id,some o') k=some z->∃z',f k=some z':=by
   intro k z hz;simp only[upF] at hz;split at hz
   ·rename_i e;subst e;exact ⟨o,hf⟩
   ·exact ⟨z,hz⟩
  obtain ⟨x',hx'⟩:=key i x hx;obtain ⟨y',hy'⟩:=key j y hy;exact h.inj i j x' y' b1 c1 d1 hx' hy' e1 e2
 ·obtain ⟨j,x,d,hx,hd⟩:=hm;simp only[upF] at hx;split at hx
  ·rename_i e;subst e;exact ⟨_,o,d,hf,hd⟩
  ·exact ⟨j,x,d,hx,hd⟩
theorem HR.alloc (h:HR g f w) {new:Nat} (hn:g.ρ new=none) {o':SO} {w':World} {ob:Obj} {l:Nat} {e:TypeId} (hw:w'=w.alloc ob) (hor:OR (g.bind new (w.heap.size,0) l e) w' new w.heap.size 0 o'):
  HR (g.bind new (w.heap.size,0) l e) (upF f (new,some o')) w'/\Fr g f w (g.bind new (w.heap.size,0) l e) (upF f (new,some o')) w':=by
 subst hw;have hfn:=h.sW hn;have hle:=Gh.sZ (p:=(w.heap.size,0)) (l:=l) (e:=e) hn;have hsz:(w.alloc ob).heap.size=w.heap.size+1:=by simp
 refine ⟨⟨fun j x hx=> ?_,fun i j x y b1 c1 d1 hx hy e1 e2=> ?_⟩,⟨rfl,rfl,rfl,by omega,hle,fun k hk _=>heap_alloc_old w ob hk,fun k hk hm=> ?_⟩⟩
 ·simp only[upF] at hx;split at hx
  ·rename_i e;subst e;cases hx;exact ⟨w.heap.size,0,Gh.da _ _ _ _ _,by omega,hor⟩
  ·rename_i e;obtain ⟨b1,c1,q1,q2,q3⟩:=h.ob j x hx;exact ⟨b1,c1,(Gh.dQ g _ _ _ e).trans q1,by omega,q3.mono hle q1 (heap_alloc_old w ob q2)⟩
 ·simp only[upF] at hx hy;split at hx
  ·rename_i ei;subst ei;split at hy
   ·rename_i ej;exact ej.symm
   ·rename_i ej;rw[Gh.da] at e1;rw[Gh.dQ g _ _ _ ej] at e2;obtain ⟨b2,c2,q1,q2,_⟩:=h.ob j y hy;rw[e2] at q1;simp at e1 q1;omega
  ·rename_i ei;rw[Gh.dQ g _ _ _ ei] at e1;split at hy
   ·rename_i ej;subst ej;rw[Gh.da] at e2;obtain ⟨b2,c2,q1,q2,_⟩:=h.ob i x hx;rw[e1] at q1;simp at e2 q1;omega
   ·rename_i ej;rw[Gh.dQ g _ _ _ ej] at e2;exact h.inj i j x y b1 c1 d1 hx hy e1 e2
 ·obtain ⟨j,x,d,hx,hd⟩:=hm;simp only[upF] at hx;split at hx
  ·rename_i e;subst e;rw[Gh.da] at hd;simp at hd;omega
  ·rename_i e;rw[Gh.dQ g _ _ _ e] at hd;exact ⟨j,x,d,hx,hd⟩
theorem HR.kill (h:HR g f w) (id:Nat):HR g (upF f (id,none)) w/\Fr g f w g (upF f (id,none)) w:=by
 have key:∀k z,upF f (id,none) k=some z->f k=some z:=by
  intro k z hz;simp only[upF] at hz;split at hz
  ·simp at hz
  ·exact hz
 refine ⟨h.sub key,⟨rfl,rfl,rfl,Nat.le_refl _,.refl _,fun _ _ _=>rfl,fun k hk hm=> ?_⟩⟩
 obtain ⟨j,x,d,hx,hd⟩:=hm;exact ⟨j,x,d,key j x hx,hd⟩
theorem HR.rename (h:HR g f w) {id new b c c' l:Nat} {e:TypeId} {o o':SO} {w':World} (hn:g.ρ new=none) (hf:f id=some o) (hρ:g.ρ id=some (b,c)) (hsz:w'.heap.size=w.heap.size)
  (wh:∀k,k≠b->w'.heap[k]? =w.heap[k]?) (hor:OR (g.bind new (b,c') l e) w' new b c' o') (h1:w'.os=w.os) (h2:w'.tape=w.tape) (h3:w'.output=w.output):
  HR (g.bind new (b,c') l e) (upF (upF f (id,none)) (new,some o')) w'/\Fr g f w (g.bind new (b,c') l e) (upF (upF f (id,none)) (new,some o')) w':=by
 have hle:=Gh.sZ (p:=(b,c')) (l:=l) (e:=e) hn;have hfn:=h.sW hn;have hb:b<w.heap.size:=by
  obtain ⟨b',c',q1,q2,_⟩:=h.ob id o hf;rw[hρ] at q1;obtain ⟨rfl,rfl⟩:b=b'/\c=c':=by simpa using q1
  exact q2
 have key:∀j x,upF (upF f (id,none)) (new,some o') j=some x->(j=new/\x=o')\/(j≠new/\j≠id/\f j=some x):=by
  intro j x hx;simp only[upF] at hx;split at hx
  ·rename_i e;cases hx;exact .inl ⟨e,rfl⟩
  ·rename_i e;split at hx
   ·simp at hx
   ·rename_i e';exact .inr ⟨e,e',hx⟩
 have hno:∀j x d,j≠id->f j=some x->g.ρ j=some (b,d)->False:=fun j x d hj hx hd=>hj (h.inj j id x o b d c hx hf hd hρ)
 refine ⟨⟨fun j x hx=> ?_,fun i j x y b1 c1 d1 hx hy e1 e2=> ?_⟩,⟨h1,h2,h3,by omega,hle,fun k hk hn=>wh k (fun e=>hn ⟨id,o,c,hf,by rw[e];exact hρ⟩),fun k hk hm=> ?_⟩⟩
 ·rcases key j x hx with ⟨rfl,rfl⟩|⟨q1,q2,q3⟩
  ·exact ⟨b,c',Gh.da _ _ _ _ _,by omega,hor⟩
  ·obtain ⟨b1,c1,r1,r2,r3⟩:=h.ob j x q3;exact ⟨b1,c1,(Gh.dQ g _ _ _ q1).trans r1,by omega,r3.mono hle r1 (wh b1 (fun e=>by subst e;exact hno j x c1 q2 q3 r1))⟩
 ·rcases key i x hx with ⟨rfl,rfl⟩|⟨q1,q2,q3⟩<;>rcases key j y hy with ⟨rfl,rfl⟩|⟨r1,r2,r3⟩
  ·rfl
  ·rw[Gh.da] at e1;rw[Gh.dQ g _ _ _ r1] at e2;obtain ⟨rfl,_⟩:b=b1/\c'=c1:=by simpa using e1
   exact (hno j y d1 r2 r3 e2).elim
  ·rw[Gh.da] at e2;rw[Gh.dQ g _ _ _ q1] at e1;obtain ⟨rfl,_⟩:b=b1/\c'=d1:=by simpa using e2
   exact (hno i x c1 q2 q3 e1).elim
  ·rw[Gh.dQ g _ _ _ q1] at e1;rw[Gh.dQ g _ _ _ r1] at e2;exact h.inj i j x y b1 c1 d1 q3 r3 e1 e2
 ·obtain ⟨j,x,d,hx,hd⟩:=hm;rcases key j x hx with ⟨rfl,rfl⟩|⟨q1,q2,q3⟩
  ·rw[Gh.da] at hd;obtain ⟨rfl,_⟩:b=k/\c'=d:=by simpa using hd
   exact ⟨id,o,c,hf,hρ⟩
  ·rw[Gh.dQ g _ _ _ q1] at hd;exact ⟨j,x,d,q3,hd⟩
theorem wP {b o:Nat} {cur:Array Value} {e:TypeId} {fz:Nat×Nat} (h:w.heap[b]? =some (.cells cur e fz)):w.cell? ⟨b,o,none⟩=cur[o]? :=by simp[World.cell?,h]
theorem add_lit (b o j:Nat):(⟨b,o,none⟩:Addr).add j=⟨b,o+j,none⟩:=by unfold Addr.add;split<;>simp_all
theorem Cells.bT {id b o:Nat} {e:TypeId} {cs:List SV} (h:Cells g w id b o e cs) (off n:Nat) (hl:off+n<=cs.length):
  ∃vs:List Value,vs.length=n/\VCs g vs ((cs.drop off).take n)/\∀j v,vs[j]? =some v->w.cell? ⟨b,o+off+j,none⟩=some v:=by
 obtain ⟨⟨cur,h1,h0,vs,h2,h3⟩,h4⟩:=h;refine ⟨(vs.drop off).take n,?_,(h2.drop off).take n,fun j v hv=> ?_⟩
 ·have:=h2.length;simp;omega
 ·rw[wP h1];rw[List.getElem?_take] at hv;split at hv
  ·rw[List.getElem?_drop] at hv;rw[Nat.add_assoc];exact h3 _ _ hv
  ·simp at hv
theorem uJ:∀{cs:List SV},kW cs=true->∀{j:Nat} {x:SV},cs[j]? =some x->isU x=false
 | [],_,j,x,h=>by simp at h
 |y::cs,hd,j,x,h=>by
  have hd:sel (isU y) false (kW cs)=true:=hd;rw[aC] at hd;split at hd
  ·cases hd
  ·rename_i hu;cases j with
   |zero=>
    have e:y=x:=by simpa using h
    rw[<-e];simpa using hu
   |succ j=>exact uJ hd (by simpa using h)
theorem OR.bT {id b o off n:Nat} {x:SO} {p:TypeId×List SV} (h:OR g w id b o x) (hx:cL (some x) off n=some p) (hl:off+n<=p.2.length):
  ∃vs:List Value,vs.length=n/\VCs g vs ((p.2.drop off).take n)/\∀j v,vs[j]? =some v->w.cell? ⟨b,o+off+j,none⟩=some v:=by
 cases x with
 |cells e cs=>cases hx;exact Cells.bT h off n hl
 |ro cs=>
  obtain ⟨hd,hx⟩:=ar (show sel (kW ((cs.drop off).take n)) (some (0,cs)) none=some p from hx);cases hx;obtain ⟨cur,e,fz,h1,_,h2⟩:=h;have hsz:n=0\/o+off+n<=cur.size:=by
   by_cases hn:n=0
   ·exact .inl hn
   ·right;have hl:off+n<=cs.length:=hl;have hlt:off+n-1<cs.length:=by omega
    obtain ⟨v,a,_⟩:=h2 (off+n-1) cs[off+n-1] (by simp[hlt])
    have:=(Array.getElem?_eq_some_iff.1 a).1;omega
  have hlen:((cur.toList.drop (o+off)).take n).length=n:=by
   rcases hsz with h|h
   ·subst h;simp
   ·simp;omega
  have uq:∀j v,((cur.toList.drop (o+off)).take n)[j]? =some v->j<n/\cur[o+off+j]? =some v:=fun j v hv=>by
   rw[List.getElem?_take] at hv;split at hv
   ·rw[List.getElem?_drop] at hv;exact ⟨by assumption,by simpa using hv⟩
   ·cases hv
  refine ⟨(cur.toList.drop (o+off)).take n,hlen,VCs.mk (by rw[hlen,List.length_take,List.length_drop];have hl:off+n<=cs.length:=hl;show n=min n (cs.length-off);omega) (fun j v y hv hy=> ?_),fun j v hv=> ?_⟩
  ·have hu:=uJ hd hy;obtain ⟨hj,hv⟩:=uq j v hv;have hy:((cs.drop off).take n)[j]? =some y:=hy;rw[List.getElem?_take,if_pos hj,List.getElem?_drop] at hy;obtain ⟨v',a,b⟩:=h2 (off+j) y hy;have e:v'=v:=by
    rw[show o+(off+j)=o+off+j by omega,hv] at a
    simpa using a.symm
   rw[<-e];exact b hu
  ·obtain ⟨_,hv⟩:=uq j v hv;rw[wP h1];exact hv
 |_=>cases hx
theorem oG {α:Type} {cs xs:List α} {off:Nat} (h:off+xs.length<=cs.length) (j:Nat):
  (cs.take off++xs++cs.drop (off+xs.length))[j]? =if off<=j/\j<off+xs.length then xs[j-off]? else cs[j]? :=by
 by_cases h1:j<off
 ·rw[if_neg (by omega),List.append_assoc,List.getElem?_append_left (by simp;omega),List.getElem?_take]
  simp[h1]
 ·by_cases h2:j<off+xs.length
  ·rw[if_pos ⟨by omega,h2⟩,List.getElem?_append_left (by simp;omega),List.getElem?_append_right (by simp;omega)]
   congr 1;simp[Nat.min_eq_left (by omega:off<=cs.length)]
  ·rw[List.getElem?_append_right (by simp;omega),List.getElem?_drop,if_neg (by omega)]
   congr 1;simp[Nat.min_eq_left (by omega:off<=cs.length)]
   omega
theorem vC (cs:List SV) (off:Nat) (xs:List SV):bF cs off xs=cs.take off++xs++cs.drop (off+xs.length):=rfl
theorem Cells.store {P:Program} {id b o:Nat} {e:TypeId} {cs:List SV} (h:Cells g w id b o e cs) {off:Nat} {us:List Value} {xs:List SV} (hx:VCs g us xs) (hl:off+xs.length<=cs.length):
  ∃w',(storeCells ⟨b,o+off,none⟩ us 0).run P w= .ok () w'/\Cells g w' id b o e (bF cs off xs)/\w'.heap.size=w.heap.size/\(∀k,k≠b->w'.heap[k]? =w.heap[k]?)/\w'.os=w.os/\w'.tape=w.tape/\w'.output=w.output:=by
 have hul:=hx.length;by_cases hu0:us= []
 ·subst hu0;have hx0:xs= []:=List.eq_nil_of_length_eq_zero (by simpa using hul.symm)
  subst hx0;refine ⟨w,rfl,?_,rfl,fun _ _=>rfl,rfl,rfl,rfl⟩
  have:bF cs off []=cs:=by rw[vC];simp
  rw[this];exact h
 obtain ⟨⟨cur,h1,h0,vs,h2,h3⟩,h4⟩:=h;have hvl:=h2.length;have sd:0<us.length:=by cases us with|nil=>exact absurd rfl hu0|cons _ _=>simp
 have hsz:o+off+us.length<=cur.size:=by
  have hlt:off+us.length-1<vs.length:=by omega
  have:=h3 (off+us.length-1) vs[off+us.length-1] (by simp[hlt])
  have:=(Array.getElem?_eq_some_iff.1 this).1;omega
 have fj:=run_storeCells_at P b (o+off) e us 0 cur w h1 (by omega) hx.one
 simp only[Nat.add_zero] at fj;refine ⟨_,fj,⟨⟨_,setRow_heap w b cur _ e _ h1,?_,vs.take off++us++vs.drop (off+us.length),?_,?_⟩,h4⟩,by simp,fun k hk=>setRow_other w b k _ hk,rfl,rfl,rfl⟩
 ·simp;omega
 ·rw[vC,<-hul];exact ((h2.take off).append hx).append (h2.drop _)
 ·intro j v hv;rw[oG (by omega)] at hv
  have hg:(cur.toList.take (o+off)++us++cur.toList.drop (o+off+us.length)).toArray[o+j]? =if o+off<=o+j/\o+j<o+off+us.length then us[o+j-(o+off)]? else cur[o+j]? :=by
   rw[List.getElem?_toArray,oG (by simp;omega)]
   simp
  rw[hg];split at hv
  ·rename_i hc;rw[if_pos (by omega)]
   have:o+j-(o+off)=j-off:=by omega
   rw[this];exact hv
  ·rename_i hc;rw[if_neg (by omega)]
   exact h3 j v hv
end
end Go.Sim
end
