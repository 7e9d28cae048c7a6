/- Texts that belong together. The first: A machine over trees of slots and a heap of numbered blocks, that the kernel can run. Definitions. -/
import Derived.WalkKit
import Derived.RangeFuncLeaves
import Derived.OrdersIn
import Derived.WalkLawsBesides
import Derived.Great.BuildSlice
set_option linter.all false
noncomputable section
namespace Go.Sim
inductive SI where
 |lit (n:Int)
 |var (i:Nat)
 |add (k:IntKind) (a b:SI)
 |sub (k:IntKind) (a b:SI)
 |conv (k:IntKind) (a:SI)
 deriving Inhabited
def SI.ev (η:Nat->Int):SI->Int
 | .lit n=>n
 | .var i=>η i
 | .add k a b=>k.wrap (a.ev η+b.ev η)
 | .sub k a b=>k.wrap (a.ev η - b.ev η)
 | .conv k a=>k.wrap (a.ev η)
def cn:IntKind->IntKind->Bool
 | .i8,.i8| .i16,.i16| .i32,.i32| .i64,.i64| .u8,.u8| .u16,.u16| .u32,.u32| .u64,.u64=>true
 |_,_=>false
def uq:Int->Int->Bool
 | .ofNat a,.ofNat b=>Nat.beq a b
 | .negSucc a,.negSucc b=>Nat.beq a b
 |_,_=>false
def mJ:Int->Int->Bool
 | .ofNat a,.ofNat b=>Nat.ble (a+1) b
 | .negSucc _,.ofNat _=>true
 | .ofNat _,.negSucc _=>false
 | .negSucc a,.negSucc b=>Nat.ble (b+1) a
def SI.eqb:SI->SI->Bool
 | .lit a,.lit b=>uq a b
 | .var a,.var b=>Nat.beq a b
 | .add k a b,.add k' a' b'=>cn k k'&&(a.eqb a'&&b.eqb b')
 | .sub k a b,.sub k' a' b'=>cn k k'&&(a.eqb a'&&b.eqb b')
 | .conv k a,.conv k' a'=>cn k k'&&a.eqb a'
 |_,_=>false
inductive Cp where
 |k (n:Nat)
 |u (e:TypeId)
 deriving Inhabited
inductive SV where
 |bool (b:Bool)
 |int (k:IntKind) (e:SI)
 |str (s:ByteArray)
 |ptr (id off:Nat)
 |cX
 |sl (id off n:Nat) (cap:Cp)
 |sle
 |aT
 |mp (id:Nat)
 |cY
 |fn (f:Fn) (first dr:List SV)
 |yld (id:Nat)
 |dy
 |ifc (t:TypeId) (v:SV)
 |cN
 |agg (cs:List SV)
 |tup (vs:List SV)
 |undef
 deriving Inhabited
inductive Tr (α:Type) where
 |nil
 |node (l:Tr α) (v:Option α) (r:Tr α)
 deriving Inhabited
@[reducible] def sel {α:Type} (b:Bool) (x y:α):α:= @Bool.rec (fun _=>α) y x b
def Tr.get {α:Type} (t:Tr α):Nat->Option α:=
 @Tr.rec α (fun _=>Nat->Option α) (fun _=>none) (fun _ v _ gl gr i=> @Bool.rec (fun _=>Option α) (@Bool.rec (fun _=>Option α) (gr (Nat.sub (Nat.div i 2) 1)) (gl (Nat.div i 2)) (Nat.beq (Nat.mod i 2) 1)) v (Nat.beq i 0)) t
def Tr.vH {α:Type} (n:Nat):Tr α->Nat->Option α->Tr α:=
 @Nat.rec (fun _=>Tr α->Nat->Option α->Tr α) (fun t _ _=>t) (fun _ ih t i x=>
  @Tr.rec α (fun _=>Tr α)
   (@Bool.rec (fun _=>Tr α) (@Bool.rec (fun _=>Tr α) (.node .nil none (ih .nil (Nat.sub (Nat.div i 2) 1) x)) (.node (ih .nil (Nat.div i 2) x) none .nil) (Nat.beq (Nat.mod i 2) 1)) (.node .nil x .nil) (Nat.beq i 0))
   (fun l v r _ _=> @Bool.rec (fun _=>Tr α) (@Bool.rec (fun _=>Tr α) (.node l v (ih r (Nat.sub (Nat.div i 2) 1) x)) (.node (ih l (Nat.div i 2) x) v r) (Nat.beq (Nat.mod i 2) 1)) (.node l x r) (Nat.beq i 0)) t) n
def Tr.set {α:Type} (t:Tr α) (i:Nat) (x:Option α):Tr α:=Tr.vH (Nat.succ i) t i x
inductive SO where
 |cells (e:TypeId) (cs:List SV)
 |map (es:List (SV×SV×Nat)) (clock:Nat)
 |iN (s:ByteArray) (pos:Nat)
 |mapIter (map:Option Nat) (since:Nat) (seen:List Nat) (amb:Nat)
 |loop (nt:Nat) (tm:Tr SV) (params:List Nat) (assign body:Code) (state:LoopState) (pending:Option Code) (dfr:Nat)
 |dfr
 |ro (cs:List SV)
 deriving Inhabited
structure FL where
 type:TypeId
 off:Nat
 named:Bool
inductive UD where
 |bool|int (k:IntKind)|string|pointer|slice (e:TypeId)|array (n:Nat) (e:TypeId)|map (k e:TypeId)|struct (fs:List FL)|func|interface|other
 deriving Inhabited
structure TI where
 desc:UD
 size:Nat
 bytes:Nat
 zero:List SV
 comparable:Bool
 deriving Inhabited
structure Env where
 P:Program
 ty:Tr TI
 fn:Tr Func
 lt:List (SI×SI×Bool)
 eq:List (SI×SI×Bool)
 done:List (Nat×SV):= []
 join:List Nat:= []
 PO:List (Nat×Nat):= []
 DX:List Nat:= []
 stop:List Nat:= []
def look (a b:SI):List (SI×SI×Bool)->Option Bool
 | []=>none
 |(x,y,r)::l=>sel (x.eqb a&&y.eqb b) (some r) (look a b l)
def ltS (E:Env) (a b:SI):Option Bool:=look a b E.lt
def ltI (E:Env):SI->SI->Option Bool
 | .lit a,.lit b=>some (mJ a b)
 |a,b=>ltS E a b
def eqS (E:Env) (a b:SI):Option Bool:=sel (a.eqb b) (some true) (look a b E.eq)
def eqI (E:Env):SI->SI->Option Bool
 | .lit x,.lit y=>some (uq x y)
 |a,b=>eqS E a b
def cG {α:Type} (P:Program):Sem α->Option α
 | .pure a=>some a
 | .program k=>cG P (k P)
 |_=>none
mutual
def kT:Value->SV
 | .bool b=>.bool b
 | .int k n=>.int k (.lit n)
 | .string s=>.str s
 | .pointer none=>.cX
 | .slice none 0 0=>.aT
 | .map none=>.cY
 | .nilFunc=>.dy
 | .nilIface=>.cN
 | .agg ⟨cs⟩=>sel (cs.all Value.oneCell') (.agg (iA cs)) .undef
 | .tuple ⟨cs⟩=>.tup (iA cs)
 |_=>.undef
def iA:List Value->List SV
 | []=> []
 |v::vs=>kT v::iA vs
end
abbrev Hp:=Tr SO
abbrev Hf:=Nat->Option SO
abbrev Up:=Nat×Option SO
structure Hs where
 hp:Hp
 nx:Nat
 lg:List Nat
 deriving Inhabited
abbrev Tf:=Nat->Option SV
def aI (tm:Tf):Operand->Option SV
 | .tmp t=>tm t
 | .const v=>some (kT v)
 | .global _=>none
 | .func f=>some (.fn (.func f) [] [])
def SV.cells (x:SV):Option (List SV):= @SV.rec (fun _=>Option (List SV)) (fun _=>PUnit) (fun b=>some [.bool b]) (fun k e=>some [.int k e]) (fun s=>some [.str s]) (fun i o=>some [.ptr i o]) (some [.cX]) (fun a b c d=>some [.sl a b c d]) (some [.sle]) (some [.aT]) (fun i=>some [.mp i]) (some [.cY]) (fun f a c _ _=>some [.fn f a c]) (fun i=>some [.yld i]) (some [.dy]) (fun t v _=>some [.ifc t v]) (some [.cN]) (fun cs _=>some cs) (fun _ _=>none) (none) PUnit.unit (fun _ _ _ _=>PUnit.unit) x
def eU (d:UD):Bool:= @UD.rec (fun _=>Bool) (false) (fun _=>false) (false) (false) (fun _=>false) (fun _ _=>true) (fun _ _=>false) (fun _=>true) (false) (false) (false) d
def Y7:SI->Option Nat
 | .lit (.ofNat n)=>some n
 |_=>none
def YG (x:SV):Option (Nat×Nat×Nat×Cp):= @SV.rec (fun _=>Option (Nat×Nat×Nat×Cp)) (fun _=>PUnit) (fun _=>none) (fun _ _=>none) (fun _=>none) (fun _ _=>none) (none) (fun i o n c=>some (i,o,n,c)) (none) (none) (fun _=>none) (none) (fun _ _ _ _ _=>none) (fun _=>none) (none) (fun _ _ _=>none) (none) (fun _ _=>none) (fun _ _=>none) (none) PUnit.unit (fun _ _ _ _=>PUnit.unit) x
def fu (x:SV):Option Nat:= @SV.rec (fun _=>Option Nat) (fun _=>PUnit) (fun _=>none) (fun _ e=>Y7 e) (fun _=>none) (fun _ _=>none) (none) (fun _ _ _ _=>none) (none) (none) (fun _=>none) (none) (fun _ _ _ _ _=>none) (fun _=>none) (none) (fun _ _ _=>none) (none) (fun _ _=>none) (fun _ _=>none) (none) PUnit.unit (fun _ _ _ _=>PUnit.unit) x
def iC (x:SV):Option Bool:= @SV.rec (fun _=>Option Bool) (fun _=>PUnit) (fun b=>some b) (fun _ _=>none) (fun _=>none) (fun _ _=>none) (none) (fun _ _ _ _=>none) (none) (none) (fun _=>none) (none) (fun _ _ _ _ _=>none) (fun _=>none) (none) (fun _ _ _=>none) (none) (fun _ _=>none) (fun _ _=>none) (none) PUnit.unit (fun _ _ _ _=>PUnit.unit) x
def intOf (x:SV):Option (IntKind×SI):= @SV.rec (fun _=>Option (IntKind×SI)) (fun _=>PUnit) (fun _=>none) (fun k e=>some (k,e)) (fun _=>none) (fun _ _=>none) (none) (fun _ _ _ _=>none) (none) (none) (fun _=>none) (none) (fun _ _ _ _ _=>none) (fun _=>none) (none) (fun _ _ _=>none) (none) (fun _ _=>none) (fun _ _=>none) (none) PUnit.unit (fun _ _ _ _=>PUnit.unit) x
def strOf (x:SV):Option ByteArray:= @SV.rec (fun _=>Option ByteArray) (fun _=>PUnit) (fun _=>none) (fun _ _=>none) (fun s=>some s) (fun _ _=>none) (none) (fun _ _ _ _=>none) (none) (none) (fun _=>none) (none) (fun _ _ _ _ _=>none) (fun _=>none) (none) (fun _ _ _=>none) (none) (fun _ _=>none) (fun _ _=>none) (none) PUnit.unit (fun _ _ _ _=>PUnit.unit) x
def lH (x:SV):Option (Nat×Nat):= @SV.rec (fun _=>Option (Nat×Nat)) (fun _=>PUnit) (fun _=>none) (fun _ _=>none) (fun _=>none) (fun i o=>some (i,o)) (none) (fun _ _ _ _=>none) (none) (none) (fun _=>none) (none) (fun _ _ _ _ _=>none) (fun _=>none) (none) (fun _ _ _=>none) (none) (fun _ _=>none) (fun _ _=>none) (none) PUnit.unit (fun _ _ _ _=>PUnit.unit) x
def uY (x:SV):Option (List SV):= @SV.rec (fun _=>Option (List SV)) (fun _=>PUnit) (fun _=>none) (fun _ _=>none) (fun _=>none) (fun _ _=>none) (none) (fun _ _ _ _=>none) (none) (none) (fun _=>none) (none) (fun _ _ _ _ _=>none) (fun _=>none) (none) (fun _ _ _=>none) (none) (fun cs _=>some cs) (fun _ _=>none) (none) PUnit.unit (fun _ _ _ _=>PUnit.unit) x
def Av (x:SV):Option (List SV):= @SV.rec (fun _=>Option (List SV)) (fun _=>PUnit) (fun _=>none) (fun _ _=>none) (fun _=>none) (fun _ _=>none) (none) (fun _ _ _ _=>none) (none) (none) (fun _=>none) (none) (fun _ _ _ _ _=>none) (fun _=>none) (none) (fun _ _ _=>none) (none) (fun _ _=>none) (fun cs _=>some cs) (none) PUnit.unit (fun _ _ _ _=>PUnit.unit) x
def Y8 (x:SV):Option Nat:= @SV.rec (fun _=>Option Nat) (fun _=>PUnit) (fun _=>none) (fun _ _=>none) (fun _=>none) (fun _ _=>none) (none) (fun _ _ _ _=>none) (none) (none) (fun i=>some i) (none) (fun _ _ _ _ _=>none) (fun _=>none) (none) (fun _ _ _=>none) (none) (fun _ _=>none) (fun _ _=>none) (none) PUnit.unit (fun _ _ _ _=>PUnit.unit) x
def oP (x:SV):Option Nat:= @SV.rec (fun _=>Option Nat) (fun _=>PUnit) (fun _=>none) (fun _ _=>none) (fun _=>none) (fun _ _=>none) (none) (fun _ _ n _=>some n) (some 0) (some 0) (fun _=>none) (none) (fun _ _ _ _ _=>none) (fun _=>none) (none) (fun _ _ _=>none) (none) (fun _ _=>none) (fun _ _=>none) (none) PUnit.unit (fun _ _ _ _=>PUnit.unit) x
def wa (x:SV):Bool:= @SV.rec (fun _=>Bool) (fun _=>PUnit) (fun _=>false) (fun _ _=>false) (fun _=>false) (fun _ _=>false) (false) (fun _ _ _ _=>true) (true) (true) (fun _=>false) (false) (fun _ _ _ _ _=>false) (fun _=>false) (false) (fun _ _ _=>false) (false) (fun _ _=>false) (fun _ _=>false) (false) PUnit.unit (fun _ _ _ _=>PUnit.unit) x
def Bb (x:SV):Option SV:= @SV.rec (fun _=>Option SV) (fun _=>PUnit) (fun _=>none) (fun _ _=>none) (fun _=>none) (fun i o=>some (.ptr i o)) (none) (fun _ _ _ _=>none) (none) (none) (fun _=>none) (none) (fun f a c _ _=>some (.fn f a c)) (fun l=>some (.yld l)) (none) (fun _ _ _=>none) (none) (fun _ _=>none) (fun _ _=>none) (none) PUnit.unit (fun _ _ _ _=>PUnit.unit) x
def cP (i:TI) (cs:List SV) (off:Nat):Option SV:=
 sel (eU i.desc) (sel (Nat.ble (Nat.add off i.size) cs.length) (some (.agg ((cs.drop off).take i.size))) none) (cs[off]?)
def bH (cs:List SV) (off:Nat) (xs:List SV):List SV:=cs.take off++xs++cs.drop (Nat.add off xs.length)
def ai {α γ:Type} (x:Option α) (f:α->Option γ):Option γ:= @Option.rec α (fun _=>Option γ) none f x
def aC {α β γ:Type} (x:Option α) (y:Option β) (f:α->β->Option γ):Option γ:= @Option.rec α (fun _=>Option γ) none (fun a=> @Option.rec β (fun _=>Option γ) none (f a) y) x
def pI {α β δ γ:Type} (x:Option α) (y:Option β) (z:Option δ) (f:α->β->δ->Option γ):Option γ:=ai x fun a=>aC y z fun b c=>f a b c
def andThen (r:Option Bool) (k:Option Bool):Option Bool:=
 match r with
 |some true=>k
 |r=>r
def uO (E:Env) (eq:TypeId->SV->SV->Option Bool) (xs ys:List SV):List FL->Option Bool
 | []=>some true
 |f::fs=>sel f.named (ai (E.ty.get f.type) fun i=>aC (cP i xs f.off) (cP i ys f.off) fun x y=>andThen (eq f.type x y) (uO E eq xs ys fs)) none
def XJ (x y:SV):Option Bool:=aC (iC x) (iC y) fun a b=>some (a==b)
def aiY (E:Env) (x y:SV):Option Bool:=aC (intOf x) (intOf y) fun a b=>sel (cn a.1 b.1) (eqI E a.2 b.2) none
def j5:List UInt8->List UInt8->Bool
 | [],[]=>true
 |a::l,b::m=>Nat.beq a.toNat b.toNat&&j5 l m
 |_,_=>false
def qk (a b:ByteArray):Bool:=j5 a.data.toList b.data.toList
def eqStr (x y:SV):Option Bool:=aC (strOf x) (strOf y) fun a b=>some (qk a b)
def GA:SV->SV->Option Bool
 | .cX,.cX=>some true
 | .cX,.ptr _ _=>some false
 | .ptr _ _,.cX=>some false
 |_,_=>none
def Ev:SV->SV->Option Bool
 | .aT,.aT=>some true
 | .aT,.sl _ _ _ _=>some false
 | .sl _ _ _ _,.aT=>some false
 |_,_=>none
def GB:SV->SV->Option Bool
 | .cY,.cY=>some true
 | .cY,.mp _=>some false
 | .mp _,.cY=>some false
 |_,_=>none
def RF:SV->SV->Option Bool
 | .dy,.dy=>some true
 | .dy,.fn _ _ _=>some false
 | .fn _ _ _,.dy=>some false
 |_,_=>none
def GC (E:Env) (eq:TypeId->SV->SV->Option Bool):SV->SV->Option Bool
 | .cN,.cN=>some true
 | .cN,.ifc _ _=>some false
 | .ifc _ _,.cN=>some false
 | .ifc t1 v1,.ifc t2 v2=>sel (Nat.beq t1 t2) (ai (E.ty.get t1) fun i1=>sel i1.comparable (eq t1 v1 v2) none) (some false)
 |_,_=>none
def X2 (x y:SV):Option (List SV×List SV):=aC (uY x) (uY y) fun xs ys=>some (xs,ys)
def aaa (E:Env) (eq:TypeId->SV->SV->Option Bool) (t:TypeId) (fs:List FL) (x y:SV):Option Bool:=ai (X2 x y) fun p=>sel (E.P.stoodInHeld t) none (uO E eq p.1 p.2 fs)
def eqD (d:UD):Env->(TypeId->SV->SV->Option Bool)->TypeId->SV->SV->Option Bool:= @UD.rec (fun _=>Env->(TypeId->SV->SV->Option Bool)->TypeId->SV->SV->Option Bool) (fun _ _ _ x y=>XJ x y) (fun _=>fun E _ _ x y=>aiY E x y) (fun _ _ _ x y=>eqStr x y) (fun _ _ _ x y=>GA x y) (fun _=>fun _ _ _ x y=>Ev x y) (fun _ _=>fun _ _ _ _ _=>none) (fun _ _=>fun _ _ _ x y=>GB x y) (fun fs=>fun E eq t x y=>aaa E eq t fs x y) (fun _ _ _ x y=>RF x y) (fun E eq _ x y=>GC E eq x y) (fun _ _ _ _ _=>none) d
def eqT (E:Env) (n:Nat):TypeId->SV->SV->Option Bool:=
 @Nat.rec (fun _=>TypeId->SV->SV->Option Bool) (fun _ _ _=>none) (fun _ eq t x y=>ai (E.ty.get t) fun i=>eqD i.desc E eq t x y) n
def isConst:Operand->Bool
 | .const _=>true
 |_=>false
def aab (E:Env) (t:TypeId) (ox oy:Operand) (x:SV):Bool:=
 match x with
 | .cN=>isConst ox||isConst oy
 | .agg _=> !E.P.eqGuardType E.P.depth t
 |_=>true
def uN (E:Env) (t:TypeId) (ox oy:Operand) (x y:SV):Option Bool:=sel (aab E t ox oy x) (eqT E 20 t x y) none
def eW (neg:Bool) (r:Option Bool):Option SV:=ai r fun b=>some (.bool (sel neg (!b) b))
def gi (r:Option Value):Option SV:=ai r fun v=>some (kT v)
def lK (E:Env) (op:BinOp) (t:TypeId) (k k':IntKind):SI->SI->Option SV
 | .lit m,.lit n=>gi (cG E.P (binOp op t (.int k m) (.int k' n)))
 |_,_=>none
def L7 (k:IntKind):SI->SI->SI
 | .lit m,.lit n=>.lit (k.wrap (m+n))
 |a,b=>.add k a b
def zn (k:IntKind):SI->SI->SI
 | .lit m,.lit n=>.lit (k.wrap (m-n))
 |a,b=>.sub k a b
def Gp (o:BinOp):Env->BinOp->TypeId->IntKind->IntKind->SI->SI->Option SV:= @BinOp.rec (fun _=>Env->BinOp->TypeId->IntKind->IntKind->SI->SI->Option SV) (fun _ _ _ k k2 a b=>sel (cn k k2) (some (.int k (L7 k a b))) none) (fun _ _ _ k k2 a b=>sel (cn k k2) (some (.int k (zn k a b))) none) (fun E op t k k2 a b=>lK E op t k k2 a b) (fun E op t k k2 a b=>lK E op t k k2 a b) (fun E op t k k2 a b=>lK E op t k k2 a b) (fun E op t k k2 a b=>lK E op t k k2 a b) (fun E op t k k2 a b=>lK E op t k k2 a b) (fun E op t k k2 a b=>lK E op t k k2 a b) (fun E op t k k2 a b=>lK E op t k k2 a b) (fun E op t k k2 a b=>lK E op t k k2 a b) (fun E op t k k2 a b=>lK E op t k k2 a b) (fun E _ _ k k2 a b=>sel (cn k k2) (eW false (eqI E a b)) none) (fun E _ _ k k2 a b=>sel (cn k k2) (eW true (eqI E a b)) none) (fun E _ _ k k2 a b=>sel (cn k k2) (eW false (ltI E a b)) none) (fun E _ _ k k2 a b=>sel (cn k k2) (eW true (ltI E b a)) none) (fun E _ _ k k2 a b=>sel (cn k k2) (eW false (ltI E b a)) none) (fun E _ _ k k2 a b=>sel (cn k k2) (eW true (ltI E a b)) none) o
def PT (o:BinOp):Env->BinOp->TypeId->ByteArray->ByteArray->Option SV:= @BinOp.rec (fun _=>Env->BinOp->TypeId->ByteArray->ByteArray->Option SV) (fun E op t a b=>gi (cG E.P (binOp op t (.string a) (.string b)))) (fun E op t a b=>gi (cG E.P (binOp op t (.string a) (.string b)))) (fun E op t a b=>gi (cG E.P (binOp op t (.string a) (.string b)))) (fun E op t a b=>gi (cG E.P (binOp op t (.string a) (.string b)))) (fun E op t a b=>gi (cG E.P (binOp op t (.string a) (.string b)))) (fun E op t a b=>gi (cG E.P (binOp op t (.string a) (.string b)))) (fun E op t a b=>gi (cG E.P (binOp op t (.string a) (.string b)))) (fun E op t a b=>gi (cG E.P (binOp op t (.string a) (.string b)))) (fun E op t a b=>gi (cG E.P (binOp op t (.string a) (.string b)))) (fun E op t a b=>gi (cG E.P (binOp op t (.string a) (.string b)))) (fun E op t a b=>gi (cG E.P (binOp op t (.string a) (.string b)))) (fun _ _ _ a b=>some (.bool (qk a b))) (fun _ _ _ a b=>some (.bool (!qk a b))) (fun E op t a b=>gi (cG E.P (binOp op t (.string a) (.string b)))) (fun E op t a b=>gi (cG E.P (binOp op t (.string a) (.string b)))) (fun E op t a b=>gi (cG E.P (binOp op t (.string a) (.string b)))) (fun E op t a b=>gi (cG E.P (binOp op t (.string a) (.string b)))) o
def eR (o:BinOp):Env->TypeId->Operand->Operand->SV->SV->Option SV:= @BinOp.rec (fun _=>Env->TypeId->Operand->Operand->SV->SV->Option SV) (fun _ _ _ _ _ _=>none) (fun _ _ _ _ _ _=>none) (fun _ _ _ _ _ _=>none) (fun _ _ _ _ _ _=>none) (fun _ _ _ _ _ _=>none) (fun _ _ _ _ _ _=>none) (fun _ _ _ _ _ _=>none) (fun _ _ _ _ _ _=>none) (fun _ _ _ _ _ _=>none) (fun _ _ _ _ _ _=>none) (fun _ _ _ _ _ _=>none) (fun E t ox oy x y=>eW false (uN E t ox oy x y)) (fun E t ox oy x y=>eW true (uN E t ox oy x y)) (fun _ _ _ _ _ _=>none) (fun _ _ _ _ _ _=>none) (fun _ _ _ _ _ _=>none) (fun _ _ _ _ _ _=>none) o
def LX (E:Env) (op:BinOp) (t:TypeId) (k:IntKind) (a:SI) (y:SV):Option SV:=ai (intOf y) fun p=>Gp op E op t k p.1 a p.2
def XT (E:Env) (op:BinOp) (t:TypeId) (a:ByteArray) (y:SV):Option SV:=ai (strOf y) fun b=>PT op E op t a b
def aaz (x:SV):Env->BinOp->TypeId->Operand->Operand->SV->SV->Option SV:= @SV.rec (fun _=>Env->BinOp->TypeId->Operand->Operand->SV->SV->Option SV) (fun _=>PUnit) (fun _=>fun E op t ox oy x y=>eR op E t ox oy x y) (fun k a=>fun E op t _ _ _ y=>LX E op t k a y) (fun a=>fun E op t _ _ _ y=>XT E op t a y) (fun _ _=>fun E op t ox oy x y=>eR op E t ox oy x y) (fun E op t ox oy x y=>eR op E t ox oy x y) (fun _ _ _ _=>fun E op t ox oy x y=>eR op E t ox oy x y) (fun E op t ox oy x y=>eR op E t ox oy x y) (fun E op t ox oy x y=>eR op E t ox oy x y) (fun _=>fun E op t ox oy x y=>eR op E t ox oy x y) (fun E op t ox oy x y=>eR op E t ox oy x y) (fun _ _ _ _ _=>fun E op t ox oy x y=>eR op E t ox oy x y) (fun _=>fun E op t ox oy x y=>eR op E t ox oy x y) (fun E op t ox oy x y=>eR op E t ox oy x y) (fun _ _ _=>fun E op t ox oy x y=>eR op E t ox oy x y) (fun E op t ox oy x y=>eR op E t ox oy x y) (fun _ _=>fun E op t ox oy x y=>eR op E t ox oy x y) (fun _ _=>fun E op t ox oy x y=>eR op E t ox oy x y) (fun E op t ox oy x y=>eR op E t ox oy x y) PUnit.unit (fun _ _ _ _=>PUnit.unit) x
def sS (E:Env) (op:BinOp) (t:TypeId) (ox oy:Operand) (x y:SV):Option SV:=aaz x E op t ox oy x y
def GJ (k:IntKind):SI->SI
 | .lit n=>.lit (k.wrap n)
 |e=>.conv k e
def GK (d:UD):SV->Option SV:= @UD.rec (fun _=>SV->Option SV) (fun _=>none) (fun k=>fun x=>ai (intOf x) fun p=>some (.int k (GJ k p.2))) (fun x=>ai (strOf x) fun s=>some (.str s)) (fun _=>none) (fun _=>fun _=>none) (fun _ _=>fun _=>none) (fun _ _=>fun _=>none) (fun _=>fun _=>none) (fun _=>none) (fun _=>none) (fun _=>none) d
def BW (E:Env) (src dst:TypeId) (x:SV):Option SV:=aC (E.ty.get src) (E.ty.get dst) fun _ i=>GK i.desc x
def Bu:UnOp->Bool
 | .not=>true
 |_=>false
def isNeg:UnOp->Bool
 | .neg=>true
 |_=>false
def unV (x:SV):UnOp->Option SV:= @SV.rec (fun _=>UnOp->Option SV) (fun _=>PUnit) (fun b=>fun op=>sel (Bu op) (some (.bool (!b))) none) (fun k e=>fun op=>sel (isNeg op) (some (.int k (zn k (.lit 0) e))) none) (fun _=>fun _=>none) (fun _ _=>fun _=>none) (fun _=>none) (fun _ _ _ _=>fun _=>none) (fun _=>none) (fun _=>none) (fun _=>fun _=>none) (fun _=>none) (fun _ _ _ _ _=>fun _=>none) (fun _=>fun _=>none) (fun _=>none) (fun _ _ _=>fun _=>none) (fun _=>none) (fun _ _=>fun _=>none) (fun _ _=>fun _=>none) (fun _=>none) PUnit.unit (fun _ _ _ _=>PUnit.unit) x
def unA (op:UnOp) (x:SV):Option SV:=unV x op
def gk (place:Nat->Option (Nat×Nat)) (cs:List SV):List (Nat×List SV)->Option (List SV)
 | []=>some cs
 |p::rest=>ai (place p.1) fun q=>sel (Nat.beq p.2.length q.2&&Nat.ble (Nat.add q.1 q.2) cs.length) (gk place (bH cs q.1 p.2) rest) none
def eE (tm:Tf):List (Nat×Operand)->Option (List (Nat×List SV))
 | []=>some []
 |p::rest=>ai (aI tm p.2) fun v=>aC v.cells (eE tm rest) fun cs l=>some ((p.1,cs)::l)
def rep (z:List SV):Nat->List SV
 |0=> []
 |n+1=>z++rep z n
def AX (E:Env) (fs:List FL) (j:Nat):Option (Nat×Nat):=ai (fs[j]?) fun f=>ai (E.ty.get f.type) fun fi=>some (f.off,fi.size)
def jx (size:Nat) (j:Nat):Option (Nat×Nat):=some (Nat.mul j size,size)
def wZ (r:Option (List SV)):Option SV:=ai r fun cs=>some (.agg cs)
def XR (d:UD):Env->List SV->List (Nat×List SV)->Option SV:= @UD.rec (fun _=>Env->List SV->List (Nat×List SV)->Option SV) (fun _ _ _=>none) (fun _=>fun _ _ _=>none) (fun _ _ _=>none) (fun _ _ _=>none) (fun _=>fun _ _ _=>none) (fun _ e=>fun E z pcs=>ai (E.ty.get e) fun ie=>wZ (gk (jx ie.size) z pcs)) (fun _ _=>fun _ _ _=>none) (fun fs=>fun E z pcs=>wZ (gk (AX E fs) z pcs)) (fun _ _ _=>none) (fun _ _ _=>none) (fun _ _ _=>none) d
def oG (E:Env) (t:TypeId) (pcs:List (Nat×List SV)):Option SV:=ai (E.ty.get t) fun i=>XR i.desc E i.zero pcs
def Hs.up (h:Hs) (u:Up):Hs:=⟨h.hp.set u.1 u.2,h.nx,u.1::h.lg⟩
def Hs.ups (h:Hs) (us:List Up):Hs:= @List.rec Up (fun _=>Hs->Hs) (fun h=>h) (fun u _ ih h=>ih (h.up u)) us h
def Hs.put (h:Hs) (id:Nat) (o:SO):Hs:=h.up (id,some o)
def Hs.bump (h:Hs):Hs:=⟨h.hp,Nat.add h.nx 1,h.lg⟩
def Hs.fin (h:Hs) (us:List Up):Hs:= @List.rec Up (fun _=>Hs) h (fun _ _ _=>(h.ups us).bump) us
def j4:Option SO->Option (TypeId×List SV)
 |some (.cells e cs)=>some (e,cs)
 |_=>none
def isU:SV->Bool
 | .undef=>true
 |_=>false
def lx:List SV->Bool
 | []=>true
 |x::l=>sel (isU x) false (lx l)
def cF (o:Option SO) (off n:Nat):Option (TypeId×List SV):=
 match o with
 |some (.cells e cs)=>some (e,cs)
 |some (.ro cs)=>sel (lx ((cs.drop off).take n)) (some (0,cs)) none
 |_=>none
def eT (h:Hf) (id off n:Nat):Option (List SV):=ai (cF (h id) off n) fun p=>sel (Nat.ble (Nat.add off n) p.2.length) (some ((p.2.drop off).take n)) none
def rowOf (x:SV):Hf->Nat->Option (List SV):= @SV.rec (fun _=>Hf->Nat->Option (List SV)) (fun _=>PUnit) (fun _=>fun _ _=>none) (fun _ _=>fun _ _=>none) (fun _=>fun _ _=>none) (fun _ _=>fun _ _=>none) (fun _ _=>none) (fun i o n _=>fun h size=>eT h i o (Nat.mul n size)) (fun _ _=>some []) (fun _ _=>some []) (fun _=>fun _ _=>none) (fun _ _=>none) (fun _ _ _ _ _=>fun _ _=>none) (fun _=>fun _ _=>none) (fun _ _=>none) (fun _ _ _=>fun _ _=>none) (fun _ _=>none) (fun _ _=>fun _ _=>none) (fun _ _=>fun _ _=>none) (fun _ _=>none) PUnit.unit (fun _ _ _ _=>PUnit.unit) x
def wide (i:TI):Nat:=sel (eU i.desc) i.size 1
def iE (E:Env) (h:Hf) (t:TypeId) (v:SV):Option SV:=ai (lH v) fun q=>ai (E.ty.get t) fun i=>ai (cF (h q.1) q.2 (wide i)) fun p=>cP i p.2 q.2
def iW (E:Env) (h:Hf) (t:TypeId) (v:SV) (a:SV):Option (List Up):=
 ai (lH a) fun q=>pI (E.ty.get t) v.cells (j4 (h q.1)) fun i xs p=>sel (Nat.beq xs.length i.size&&Nat.ble (Nat.add q.2 xs.length) p.2.length) (some [(q.1,some (.cells p.1 (bH p.2 q.2 xs)))]) none
def qf (E:Env) (e:TypeId) (id off n k:Nat):Option SV:=sel (Nat.ble (Nat.succ k) n) (ai (E.ty.get e) fun ie=>some (.ptr id (Nat.add off (Nat.mul k ie.size)))) none
def Bw (d:UD):Env->SV->Nat->Option SV:= @UD.rec (fun _=>Env->SV->Nat->Option SV) (fun _ _ _=>none) (fun _=>fun _ _ _=>none) (fun _ _ _=>none) (fun _ _ _=>none) (fun e=>fun E x k=>ai (YG x) fun q=>qf E e q.1 q.2.1 q.2.2.1 k) (fun n e=>fun E x k=>ai (lH x) fun q=>qf E e q.1 q.2 n k) (fun _ _=>fun _ _ _=>none) (fun _=>fun _ _ _=>none) (fun _ _ _=>none) (fun _ _ _=>none) (fun _ _ _=>none) d
def g8 (E:Env) (t:TypeId) (x:SV) (k:Nat):Option SV:=ai (E.ty.get t) fun i=>Bw i.desc E x k
def dE (tm:Tf):Option Operand->Option (Option Nat)
 |none=>some none
 |some x=>ai (aI tm x) fun v=>ai (fu v) fun n=>some (some n)
def kz (m:Cp) (l:Nat):Cp:=
 match m with
 | .k c=>.k (Nat.sub c l)
 | .u e=>.u e
def mT (id off l h size:Nat) (m:Cp):SV:=sel (Nat.beq l 0) (.sl id off h m) (sel (Nat.ble (Nat.succ l) h) (.sl id (Nat.add off (Nat.mul l size)) (Nat.sub h l) (kz m l)) .sle)
def Gj (mx:Option Nat) (h reach:Nat):Bool:=
 match mx with
 |some m=>Nat.ble h m&&Nat.ble m reach
 |none=>true
def orC (a:Option Nat) (b:Cp):Cp:=
 match a with
 |some m=>.k m
 |none=>b
def reach (c:Cp) (n:Nat):Nat:=
 match c with
 | .k m=>m
 | .u _=>n
def oh (c:Cp) (e:TypeId):Bool:=
 match c with
 | .k _=>true
 | .u e'=>Nat.beq e' e
def jv (E:Env) (e:TypeId) (id off n:Nat) (cap:Cp) (lo hi mx:Option Nat):Option SV:=
 ai (E.ty.get e) fun ie=>sel (oh cap e&&(Nat.ble (lo.getD 0) (hi.getD n)&&(Nat.ble (hi.getD n) (reach cap n)&&Gj mx (hi.getD n) (reach cap n)))) (some (mT id off (lo.getD 0) (hi.getD n) ie.size (orC mx cap))) none
def JD (s:ByteArray) (lo hi mx:Option Nat):Option SV:=
 match mx with
 |some _=>none
 |none=>sel (Nat.ble (lo.getD 0) (hi.getD s.size)&&Nat.ble (hi.getD s.size) s.size) (some (.str (s.extract (lo.getD 0) (hi.getD s.size)))) none
def fB:Option Nat->Bool
 |some n=>Nat.beq n 0
 |none=>true
def AN (x:SV):Env->TypeId->Option Nat->Option Nat->Option Nat->Option SV:= @SV.rec (fun _=>Env->TypeId->Option Nat->Option Nat->Option Nat->Option SV) (fun _=>PUnit) (fun _=>fun _ _ _ _ _=>none) (fun _ _=>fun _ _ _ _ _=>none) (fun _=>fun _ _ _ _ _=>none) (fun _ _=>fun _ _ _ _ _=>none) (fun _ _ _ _ _=>none) (fun i o n c=>fun E e lo hi mx=>jv E e i o n c lo hi mx) (fun _ _ lo hi mx=>sel (fB lo&&(fB hi&&mx.isNone)) (some .sle) none) (fun _ _ lo hi mx=>sel (fB lo&&(fB hi&&fB mx)) (some .aT) none) (fun _=>fun _ _ _ _ _=>none) (fun _ _ _ _ _=>none) (fun _ _ _ _ _=>fun _ _ _ _ _=>none) (fun _=>fun _ _ _ _ _=>none) (fun _ _ _ _ _=>none) (fun _ _ _=>fun _ _ _ _ _=>none) (fun _ _ _ _ _=>none) (fun _ _=>fun _ _ _ _ _=>none) (fun _ _=>fun _ _ _ _ _=>none) (fun _ _ _ _ _=>none) PUnit.unit (fun _ _ _ _=>PUnit.unit) x
def U0 (d:UD):Env->SV->Option Nat->Option Nat->Option Nat->Option SV:= @UD.rec (fun _=>Env->SV->Option Nat->Option Nat->Option Nat->Option SV) (fun _ _ _ _ _=>none) (fun _=>fun _ _ _ _ _=>none) (fun _ x lo hi mx=>ai (strOf x) fun s=>JD s lo hi mx) (fun _ _ _ _ _=>none) (fun e=>fun E x lo hi mx=>ai (E.ty.get e) fun _=>AN x E e lo hi mx) (fun n e=>fun E x lo hi mx=>ai (lH x) fun q=>jv E e q.1 q.2 n (.k n) lo hi mx) (fun _ _=>fun _ _ _ _ _=>none) (fun _=>fun _ _ _ _ _=>none) (fun _ _ _ _ _=>none) (fun _ _ _ _ _=>none) (fun _ _ _ _ _=>none) d
def Gk (hi mx:Option Nat):Bool:=
 match mx with
 |some _=>hi.isSome
 |none=>true
def qn (E:Env) (t:TypeId) (x:SV) (lo hi mx:Option Nat):Option SV:=ai (E.ty.get t) fun i=>sel (Gk hi mx) (U0 i.desc E x lo hi mx) none
def tG (s:ByteArray):List SV:=s.data.toList.map fun b=>.int .u8 (.lit b.toNat)
def dV (h:Hf) (size:Nat) (x:SV):Option (Nat×List SV):=aC (oP x) (rowOf x h size) fun n xs=>some (n,xs)
def srcV (x:SV):Hf->Nat->SV->Option (Nat×List SV):= @SV.rec (fun _=>Hf->Nat->SV->Option (Nat×List SV)) (fun _=>PUnit) (fun _=>fun h size x=>dV h size x) (fun _ _=>fun h size x=>dV h size x) (fun b=>fun _ size _=>sel (Nat.beq size 1) (some (b.size,tG b)) none) (fun _ _=>fun h size x=>dV h size x) (fun h size x=>dV h size x) (fun _ _ _ _=>fun h size x=>dV h size x) (fun h size x=>dV h size x) (fun h size x=>dV h size x) (fun _=>fun h size x=>dV h size x) (fun h size x=>dV h size x) (fun _ _ _ _ _=>fun h size x=>dV h size x) (fun _=>fun h size x=>dV h size x) (fun h size x=>dV h size x) (fun _ _ _=>fun h size x=>dV h size x) (fun h size x=>dV h size x) (fun _ _=>fun h size x=>dV h size x) (fun _ _=>fun h size x=>dV h size x) (fun h size x=>dV h size x) PUnit.unit (fun _ _ _ _=>PUnit.unit) x
def iX (h:Hf) (size:Nat) (x:SV):Option (Nat×List SV):=srcV x h size x
def dq (ie:TI):Bool:=Nat.ble ie.bytes 65536&&(Nat.ble 1 ie.size&&Nat.beq ie.zero.length ie.size)
def mI (new:Nat) (e:TypeId) (n:Nat) (cs:List SV) (us:List Up):Option (SV×List Up):=some (.sl new 0 n (.u e),us++ [(new,some (.cells e cs))])
def xS (new:Nat) (e:TypeId) (size id off n:Nat) (cap:Cp) (m:Nat) (xs:List SV) (p:TypeId×List SV) (old:List SV):Option (SV×List Up):=
 match cap with
 | .k c=>
  sel (Nat.ble (Nat.add n m) c)
   (sel (Nat.ble (Nat.add off (Nat.mul (Nat.add n m) size)) p.2.length) (some (.sl id off (Nat.add n m) cap,[(id,some (.cells p.1 (bH p.2 (Nat.add off (Nat.mul n size)) xs)))])) none)
   (mI new e (Nat.add n m) (old++xs) [])
 | .u _=>sel (Nat.ble (Nat.add off (Nat.mul n size)) p.2.length&&Nat.beq e p.1) (mI new e (Nat.add n m) (old++xs) [(id,none)]) none
def Gu (n m:Nat):Cp->Bool
 | .k c=>Nat.ble (Nat.succ c) (Nat.add n m)
 | .u _=>false
def sk (h:Hf) (new:Nat) (e:TypeId) (size m:Nat) (xs:List SV) (id off n:Nat) (cap:Cp):Option (SV×List Up):=sel (Nat.ble n 1000000) (sel (Gu n m cap) (ai (eT h id off (Nat.mul n size)) fun old=>mI new e (Nat.add n m) (old++xs) []) (aC (j4 (h id)) (eT h id off (Nat.mul n size)) fun p old=>xS new e size id off n cap m xs p old)) none
def n5 (x:SV):Hf->Nat->TypeId->Nat->Nat->List SV->Option (SV×List Up):= @SV.rec (fun _=>Hf->Nat->TypeId->Nat->Nat->List SV->Option (SV×List Up)) (fun _=>PUnit) (fun _=>fun _ _ _ _ _ _=>none) (fun _ _=>fun _ _ _ _ _ _=>none) (fun _=>fun _ _ _ _ _ _=>none) (fun _ _=>fun _ _ _ _ _ _=>none) (fun _ _ _ _ _ _=>none) (fun i o n c=>fun h new e size m xs=>sk h new e size m xs i o n c) (fun _ _ _ _ _ _=>none) (fun _ new e _ m xs=>mI new e m xs []) (fun _=>fun _ _ _ _ _ _=>none) (fun _ _ _ _ _ _=>none) (fun _ _ _ _ _=>fun _ _ _ _ _ _=>none) (fun _=>fun _ _ _ _ _ _=>none) (fun _ _ _ _ _ _=>none) (fun _ _ _=>fun _ _ _ _ _ _=>none) (fun _ _ _ _ _ _=>none) (fun _ _=>fun _ _ _ _ _ _=>none) (fun _ _=>fun _ _ _ _ _ _=>none) (fun _ _ _ _ _ _=>none) PUnit.unit (fun _ _ _ _=>PUnit.unit) x
def EF (E:Env) (h:Hf) (new:Nat) (e:TypeId) (s x:SV):Option (SV×List Up):=
 ai (E.ty.get e) fun ie=>sel (dq ie) (ai (iX h ie.size x) fun q=>sel (Nat.ble q.1 1000000) (sel (Nat.beq q.1 0) (sel (wa s) (some (s,[])) none) (n5 s h new e ie.size q.1 q.2)) none) none
def jw (d:UD):Option TypeId:= @UD.rec (fun _=>Option TypeId) (none) (fun _=>none) (none) (none) (fun e=>some e) (fun _ _=>none) (fun _ _=>none) (fun _=>none) (none) (none) (none) d
def fK (E:Env) (h:Hf) (new:Nat) (t:TypeId) (s x:SV):Option (SV×List Up):=ai (E.ty.get t) fun i=>ai (jw i.desc) fun e=>EF E h new e s x
def tF (h:Hf) (size n:Nat) (xs:List SV) (id off:Nat):Option (SV×List Up):=ai (j4 (h id)) fun p=>sel (Nat.ble (Nat.add off (Nat.mul n size)) p.2.length) (some (.int .i64 (.lit (.ofNat n)),[(id,some (.cells p.1 (bH p.2 off (xs.take (Nat.mul n size)))))])) none
def oE (x:SV):Hf->Nat->Nat->List SV->Option (SV×List Up):= @SV.rec (fun _=>Hf->Nat->Nat->List SV->Option (SV×List Up)) (fun _=>PUnit) (fun _=>fun _ _ _ _=>none) (fun _ _=>fun _ _ _ _=>none) (fun _=>fun _ _ _ _=>none) (fun _ _=>fun _ _ _ _=>none) (fun _ _ _ _=>none) (fun i o _ _=>fun h size n xs=>tF h size n xs i o) (fun _ _ n _=>some (.int .i64 (.lit (.ofNat n)),[])) (fun _ _ n _=>some (.int .i64 (.lit (.ofNat n)),[])) (fun _=>fun _ _ _ _=>none) (fun _ _ _ _=>none) (fun _ _ _ _ _=>fun _ _ _ _=>none) (fun _=>fun _ _ _ _=>none) (fun _ _ _ _=>none) (fun _ _ _=>fun _ _ _ _=>none) (fun _ _ _ _=>none) (fun _ _=>fun _ _ _ _=>none) (fun _ _=>fun _ _ _ _=>none) (fun _ _ _ _=>none) PUnit.unit (fun _ _ _ _=>PUnit.unit) x
def GH (E:Env) (h:Hf) (e:TypeId) (d s:SV):Option (SV×List Up):=
 ai (E.ty.get e) fun ie=>sel (dq ie) (aC (oP d) (iX h ie.size s) fun nd q=>oE d h ie.size (sel (Nat.ble q.1 nd) q.1 nd) q.2) none
def ku (E:Env) (h:Hf) (t:TypeId) (d s:SV):Option (SV×List Up):=ai (E.ty.get t) fun i=>ai (jw i.desc) fun e=>GH E h e d s
def ow (d:UD):Bool:= @UD.rec (fun _=>Bool) (false) (fun _=>false) (true) (false) (fun _=>false) (fun _ _=>false) (fun _ _=>false) (fun _=>false) (false) (false) (false) d
def xD (d:UD):Bool:= @UD.rec (fun _=>Bool) (true) (fun _=>false) (false) (false) (fun _=>false) (fun _ _=>false) (fun _ _=>false) (fun _=>false) (false) (false) (false) d
def isLit:SI->Bool
 | .lit _=>true
 |_=>false
def Q6 (k:IntKind):UD->Bool
 | .int k'=>cn k k'
 |_=>false
def tu (x:SV):UD->Bool:= @SV.rec (fun _=>UD->Bool) (fun _=>PUnit) (fun _=>fun d=>xD d) (fun k e=>fun d=>isLit e&&Q6 k d) (fun _=>fun d=>ow d) (fun _ _=>fun _=>false) (fun _=>false) (fun _ _ _ _=>fun _=>false) (fun _=>false) (fun _=>false) (fun _=>fun _=>false) (fun _=>false) (fun _ _ _ _ _=>fun _=>false) (fun _=>fun _=>false) (fun _=>false) (fun _ _ _=>fun _=>false) (fun _=>false) (fun _ _=>fun _=>false) (fun _ _=>fun _=>false) (fun _=>false) PUnit.unit (fun _ _ _ _=>PUnit.unit) x
def aaW:SI->SI->Option Bool
 | .lit a,.lit b=>some (uq a b)
 |_,_=>none
def sameKey (x:SV):SV->Option Bool:= @SV.rec (fun _=>SV->Option Bool) (fun _=>PUnit) (fun a=>fun y=>XJ (.bool a) y) (fun k a=>fun y=>ai (intOf y) fun p=>sel (cn k p.1) (aaW a p.2) none) (fun a=>fun y=>eqStr (.str a) y) (fun _ _=>fun _=>none) (fun _=>none) (fun _ _ _ _=>fun _=>none) (fun _=>none) (fun _=>none) (fun _=>fun _=>none) (fun _=>none) (fun _ _ _ _ _=>fun _=>none) (fun _=>fun _=>none) (fun _=>none) (fun _ _ _=>fun _=>none) (fun _=>none) (fun _ _=>fun _=>none) (fun _ _=>fun _=>none) (fun _=>none) PUnit.unit (fun _ _ _ _=>PUnit.unit) x
def iH (k:SV):List (SV×SV×Nat)->Nat->Option (Option (Nat×SV×Nat))
 | [],_=>some none
 |e::es,i=>
  match sameKey k e.1 with
  |some true=>some (some (i,e.2.1,e.2.2))
  |some false=>iH k es (Nat.add i 1)
  |none=>none
def jy:Option SO->Option (List (SV×SV×Nat)×Nat)
 |some (.map es c)=>some (es,c)
 |_=>none
def Ly (x:SV):Hf->Option (List (SV×SV×Nat)):= @SV.rec (fun _=>Hf->Option (List (SV×SV×Nat))) (fun _=>PUnit) (fun _=>fun _=>none) (fun _ _=>fun _=>none) (fun _=>fun _=>none) (fun _ _=>fun _=>none) (fun _=>none) (fun _ _ _ _=>fun _=>none) (fun _=>none) (fun _=>none) (fun i=>fun h=>ai (jy (h i)) fun p=>some p.1) (fun _=>some []) (fun _ _ _ _ _=>fun _=>none) (fun _=>fun _=>none) (fun _=>none) (fun _ _ _=>fun _=>none) (fun _=>none) (fun _ _=>fun _=>none) (fun _ _=>fun _=>none) (fun _=>none) PUnit.unit (fun _ _ _ _=>PUnit.unit) x
def okV (ok:Bool) (v:SV) (b:Bool):SV:=sel ok (.tup [v,.bool b]) v
def wz (ok:Bool) (z:Option SV):Option (Nat×SV×Nat)->Option SV
 |some r=>some (okV ok r.2.1 true)
 |none=>ai z fun z=>some (okV ok z false)
def qB (d:UD):Option (TypeId×TypeId):= @UD.rec (fun _=>Option (TypeId×TypeId)) (none) (fun _=>none) (none) (none) (fun _=>none) (fun _ _=>none) (fun k e=>some (k,e)) (fun _=>none) (none) (none) (none) d
def ka (E:Env) (h:Hf) (t:TypeId) (x k:SV) (ok:Bool):Option SV:=
 ai (E.ty.get t) fun i=>ai (qB i.desc) fun q=>aC (E.ty.get q.1) (E.ty.get q.2) fun ik ie=>sel (tu k ik.desc) (ai (Ly x h) fun es=>ai (iH k es 0) fun r=>wz ok (cP ie ie.zero 0) r) none
def CZ (es:List (SV×SV×Nat)) (c:Nat) (k v:SV):Option (Nat×SV×Nat)->SO
 |some r=>.map (es.set r.1 (k,v,r.2.2)) c
 |none=>.map (es++ [(k,v,c)]) (Nat.add c 1)
def lV (E:Env) (h:Hf) (t:TypeId) (x k v:SV):Option (List Up):=
 ai (Y8 x) fun id=>ai (E.ty.get t) fun i=>ai (qB i.desc) fun q=>aC (E.ty.get q.1) (jy (h id)) fun ik p=>sel (tu k ik.desc) (ai (iH k p.1 0) fun r=>some [(id,some (CZ p.1 p.2 k v r))]) none
def kZ (n:Nat):SV:=.int .i64 (.lit (.ofNat n))
def Zc (x:SV):Hf->Option SV:= @SV.rec (fun _=>Hf->Option SV) (fun _=>PUnit) (fun _=>fun _=>none) (fun _ _=>fun _=>none) (fun _=>fun _=>none) (fun _ _=>fun _=>none) (fun _=>none) (fun _ _ _ _=>fun _=>none) (fun _=>none) (fun _=>none) (fun i=>fun h=>ai (jy (h i)) fun p=>some (kZ p.1.length)) (fun _=>some (kZ 0)) (fun _ _ _ _ _=>fun _=>none) (fun _=>fun _=>none) (fun _=>none) (fun _ _ _=>fun _=>none) (fun _=>none) (fun _ _=>fun _=>none) (fun _ _=>fun _=>none) (fun _=>none) PUnit.unit (fun _ _ _ _=>PUnit.unit) x
def nq (d:UD):SV->Hf->Option SV:= @UD.rec (fun _=>SV->Hf->Option SV) (fun _ _=>none) (fun _=>fun _ _=>none) (fun x _=>ai (strOf x) fun s=>some (kZ s.size)) (fun _ _=>none) (fun _=>fun x _=>ai (oP x) fun n=>some (kZ n)) (fun n _=>fun _ _=>some (kZ n)) (fun _ _=>fun x h=>Zc x h) (fun _=>fun _ _=>none) (fun _ _=>none) (fun _ _=>none) (fun _ _=>none) d
def bE (tm:Tf):List Operand->Option (List SV)
 | []=>some []
 |x::xs=>aC (aI tm x) (bE tm xs) fun v l=>some (v::l)
def same (r:Option SV):Option (SV×List Up):=ai r fun v=>some (v,[])
def unit (r:Option (List Up)):Option (SV×List Up):=ai r fun us=>some (.tup [],us)
def one (tm:Tf) (x:Operand) (f:SV->Option (SV×List Up)):Option (SV×List Up):=ai (aI tm x) f
def two (tm:Tf) (x y:Operand) (f:SV->SV->Option (SV×List Up)):Option (SV×List Up):=aC (aI tm x) (aI tm y) f
def DM (E:Env) (new:Nat) (e:TypeId):Option (SV×List Up):=ai (E.ty.get e) fun i=>some (.ptr new 0,[(new,some (.cells e i.zero))])
def xw (new:Nat) (e:TypeId) (v:SV):Option (SV×List Up):=ai v.cells fun cs=>some (.ptr new 0,[(new,some (.cells e cs))])
def iq (E:Env) (new:Nat) (t:TypeId) (len:Nat) (pcs:List (Nat×List SV)):Option (SV×List Up):=
 ai (E.ty.get t) fun i=>ai (jw i.desc) fun e=>ai (E.ty.get e) fun ie=>
  sel (dq ie&&Nat.ble (Nat.mul len ie.size) 16777216) (ai (gk (jx ie.size) (rep ie.zero len) pcs) fun cs=>some (.sl new 0 len (.k len),[(new,some (.cells e cs))])) none
def nW (d:UD):Bool:= @UD.rec (fun _=>Bool) (false) (fun _=>false) (false) (false) (fun _=>false) (fun _ _=>false) (fun _ _=>false) (fun _=>false) (false) (true) (false) d
def A5 (E:Env) (t:TypeId) (v:SV):Option (SV×List Up):=ai (E.ty.get t) fun i=>sel (nW i.desc) none (some (.ifc t v,[]))
def DQ:Fn->Bool
 | .func _=>true
 |_=>false
def agn (tm:Tf) (f:Fn) (a c:List Operand):Option (SV×List Up):=sel (DQ f) (aC (bE tm a) (bE tm c) fun l m=>some (.fn f l m,[])) none
def Be (new:Nat):Option (SV×List Up):=some (.mp new,[(new,some (.map [] 0))])
def aiu (E:Env) (tm:Tf) (new:Nat) (t:TypeId):Option Operand->Option (SV×List Up)
 |none=>Be new
 |some x=>aC (E.ty.get t) (aI tm x) fun i v=>aC (qB i.desc) (fu v) fun _ _=>Be new
def qu (E:Env) (new:Nat) (t:TypeId) (l c:Nat):Option (SV×List Up):=
 ai (E.ty.get t) fun i=>ai (jw i.desc) fun e=>ai (E.ty.get e) fun ie=>
  sel (Nat.ble l c&&(Nat.ble c 1000000&&dq ie)) (some (.sl new 0 l (.k c),[(new,some (.cells e (rep ie.zero c)))])) none
def m8 (d:UD):Option (List FL):= @UD.rec (fun _=>Option (List FL)) (none) (fun _=>none) (none) (none) (fun _=>none) (fun _ _=>none) (fun _ _=>none) (fun fs=>some fs) (none) (none) (none) d
def jk (E:Env) (s:TypeId) (f:Nat) (v:SV):Option (SV×List Up):=
 aC (E.ty.get s) (lH v) fun i p=>ai (m8 i.desc) fun fs=>ai (fs[f]?) fun fl=>ai (E.ty.get fl.type) fun fi=>sel (Nat.ble 1 fi.size) (some (.ptr p.1 (Nat.add p.2 fl.off),[])) none
def nk (E:Env) (t:TypeId) (f:Nat) (v:SV):Option (SV×List Up):=
 aC (E.ty.get t) (uY v) fun i cs=>ai (m8 i.desc) fun fs=>ai (fs[f]?) fun fl=>ai (E.ty.get fl.type) fun fi=>same (cP fi cs fl.off)
def agD (d:UD):Env->Nat->SV->Option (SV×List Up):= @UD.rec (fun _=>Env->Nat->SV->Option (SV×List Up)) (fun _ _ _=>none) (fun _=>fun _ _ _=>none) (fun _ k v=>ai (strOf v) fun s=>ai (s.data.toList[k]?) fun b=>some (.int .u8 (.lit (.ofNat b.toNat)),[])) (fun _ _ _=>none) (fun _=>fun _ _ _=>none) (fun n e=>fun E k v=>aC (uY v) (E.ty.get e) fun cs ie=>sel (Nat.ble (Nat.succ k) n) (same (cP ie cs (Nat.mul k ie.size))) none) (fun _ _=>fun _ _ _=>none) (fun _=>fun _ _ _=>none) (fun _ _ _=>none) (fun _ _ _=>none) (fun _ _ _=>none) d
def j9 (E:Env) (t:TypeId) (k:Nat) (v:SV):Option (SV×List Up):=ai (E.ty.get t) fun i=>agD i.desc E k v
def agh (x:SV):Hf->Option SO:= @SV.rec (fun _=>Hf->Option SO) (fun _=>PUnit) (fun _=>fun _=>none) (fun _ _=>fun _=>none) (fun _=>fun _=>none) (fun _ _=>fun _=>none) (fun _=>none) (fun _ _ _ _=>fun _=>none) (fun _=>none) (fun _=>none) (fun i=>fun h=>ai (jy (h i)) fun p=>some (.mapIter (some i) p.2 [] p.2)) (fun _=>some (.mapIter none 0 [] 0)) (fun _ _ _ _ _=>fun _=>none) (fun _=>fun _=>none) (fun _=>none) (fun _ _ _=>fun _=>none) (fun _=>none) (fun _ _=>fun _=>none) (fun _ _=>fun _=>none) (fun _=>none) PUnit.unit (fun _ _ _ _=>PUnit.unit) x
def vN (d:UD) (v:SV) (h:Hf):Option SO:=
 match d with
 | .string=>ai (strOf v) fun s=>some (.iN s 0)
 | .map _ _=>agh v h
 |_=>none
def mq (E:Env) (h:Hf) (new:Nat) (t:TypeId) (v:SV):Option (SV×List Up):=ai (E.ty.get t) fun i=>ai (vN i.desc v h) fun o=>some (.ptr new 0,[(new,some o)])
def rV:Option SO->Option (ByteArray×Nat)
 |some (.iN s p)=>some (s,p)
 |_=>none
def mi (v:SV):Option Nat:=ai (lH v) fun q=>sel (Nat.beq q.2 0) (some q.1) none
def iP (id:Nat) (p:ByteArray×Nat):SV×List Up:=
 sel (Nat.ble (Nat.succ p.2) p.1.size) (.tup [.bool true,kZ p.2,.int .i32 (.lit (Utf8.decode p.1 p.2).1)],[(id,some (.iN p.1 (Nat.add p.2 (Utf8.decode p.1 p.2).2)))]) (.tup [.bool false],[])
def mF (h:Hf) (isS:Bool) (v:SV):Option (SV×List Up):=sel isS (ai (mi v) fun id=>ai (rV (h id)) fun p=>some (iP id p)) none
def uJ (i:TI) (ok:Bool):Option SV:=sel ok (ai (cP i i.zero 0) fun z=>some (.tup [z,.bool false])) none
def asserted (x:SV):TypeId->TI->Bool->Option SV:= @SV.rec (fun _=>TypeId->TI->Bool->Option SV) (fun _=>PUnit) (fun _=>fun _ _ _=>none) (fun _ _=>fun _ _ _=>none) (fun _=>fun _ _ _=>none) (fun _ _=>fun _ _ _=>none) (fun _ _ _=>none) (fun _ _ _ _=>fun _ _ _=>none) (fun _ _ _=>none) (fun _ _ _=>none) (fun _=>fun _ _ _=>none) (fun _ _ _=>none) (fun _ _ _ _ _=>fun _ _ _=>none) (fun _=>fun _ _ _=>none) (fun _ _ _=>none) (fun t2 u _=>fun t i ok=>sel (Nat.beq t2 t) (some (okV ok u true)) (uJ i ok)) (fun _ i ok=>uJ i ok) (fun _ _=>fun _ _ _=>none) (fun _ _=>fun _ _ _=>none) (fun _ _ _=>none) PUnit.unit (fun _ _ _ _=>PUnit.unit) x
def qv (E:Env) (t:TypeId) (ok:Bool) (v:SV):Option (SV×List Up):=ai (E.ty.get t) fun i=>sel (nW i.desc) none (same (asserted v t i ok))
def zK (E:Env) (mx:Bool) (x y:SV):Option SV:=aC (intOf x) (intOf y) fun a b=>ai (sel mx (ltI E a.2 b.2) (ltI E b.2 a.2)) fun r=>some (.int a.1 (sel r b.2 a.2))
def kf:UD->Bool
 | .slice _=>true
 | .string=>true
 |_=>false
def jC {α:Type}:List α->Option (α×α)
 | [a,b]=>some (a,b)
 |_=>none
def fM (E:Env) (h:Hf) (new:Nat) (b:Builtin) (aa:List SV) (ts:List TypeId):Option (SV×List Up):=
 match b with
 | .len=>aC aa.head? ts.head? fun x t=>sel (Nat.beq aa.length 1) (ai (E.ty.get t) fun i=>same (nq i.desc x h)) none
 | .append=>aC (jC aa) (jC ts) fun p q=>ai (E.ty.get q.2) fun i=>sel (kf i.desc) (fK E h new q.1 p.1 p.2) none
 | .copy=>aC (jC aa) ts.head? fun p t=>ku E h t p.1 p.2
 | .min=>ai (jC aa) fun p=>same (zK E false p.1 p.2)
 | .max=>ai (jC aa) fun p=>same (zK E true p.1 p.2)
 |_=>none
def fc (E:Env) (tm:Tf) (h:Hf) (new:Nat) (c:Call):Option (SV×List Up):=
 match c.callee with
 | .builtin b=>ai (bE tm c.args.toList) fun aa=>fM E h new b aa c.argTypes.toList
 |_=>none
def opD (o:Op):Env->Tf->Hf->Nat->Option (SV×List Up):= @Op.rec (fun _=>Env->Tf->Hf->Nat->Option (SV×List Up)) (fun x=>fun _ tm h _=>one tm x fun v=>some (v,[])) (fun x=>fun _ tm h _=>one tm x fun v=>some (v,[])) (fun c x y=>fun _ tm h _=>ai (aI tm c) fun v=>ai (iC v) fun b=>one tm (sel b x y) fun v=>some (v,[])) (fun e=>fun E _ h new=>DM E new e) (fun e x=>fun _ tm h new=>one tm x (xw new e)) (fun t parts=>fun E tm h _=>ai (eE tm parts.toList) fun pcs=>same (oG E t pcs)) (fun t len parts=>fun E tm h new=>ai (eE tm parts.toList) fun pcs=>iq E new t len pcs) (fun t m k x=>fun E tm h _=>two tm m k fun a b=>one tm x fun c=>unit (lV E h t a b c)) (fun t x=>fun E tm h _=>one tm x fun v=>same (iE E h t v)) (fun t x y=>fun E tm h _=>two tm x y fun a v=>unit (iW E h t v a)) (fun _=>fun _ _ _ _=>none) (fun _=>fun _ _ _ _=>none) (fun x=>fun _ tm h _=>one tm x fun v=>same (Bb v)) (fun op t x y _=>fun E tm h _=>two tm x y fun v u=>same (sS E op t x y v u)) (fun op _ x=>fun _ tm h _=>one tm x fun v=>same (unA op v)) (fun s d x=>fun E tm h _=>one tm x fun v=>same (BW E s d v)) (fun _ _=>fun _ _ _ _=>none) (fun t x=>fun E tm h _=>one tm x (A5 E t)) (fun f a c=>fun _ tm h _=>agn tm f a.toList c.toList) (fun t r=>fun E tm h new=>aiu E tm new t r) (fun _ _=>fun _ _ _ _=>none) (fun t l c=>fun E tm h new=>two tm l c fun u v=>aC (fu u) (fu v) (qu E new t)) (fun t x lo hi mx=>fun E tm h _=>one tm x fun v=>pI (dE tm lo) (dE tm hi) (dE tm mx) fun l u m=>same (qn E t v l u m)) (fun s x f=>fun E tm h _=>one tm x (jk E s f)) (fun t x f=>fun E tm h _=>one tm x (nk E t f)) (fun t x ix=>fun E tm h _=>two tm x ix fun v u=>ai (fu u) fun k=>same (g8 E t v k)) (fun t x ix=>fun E tm h _=>two tm x ix fun v u=>ai (fu u) fun k=>j9 E t k v) (fun t x k ok=>fun E tm h _=>two tm x k fun a b=>same (ka E h t a b ok)) (fun t m k x=>fun E tm h _=>two tm m k fun a b=>one tm x fun c=>unit (lV E h t a b c)) (fun _ _ _=>fun _ _ _ _=>none) (fun _ _ _ _=>fun _ _ _ _=>none) (fun t x=>fun E tm h new=>one tm x (mq E h new t)) (fun it isS=>fun _ tm h _=>one tm it (mF h isS)) (fun _=>fun _ _ _ _=>none) (fun x _ t ok=>fun E tm h _=>one tm x (qv E t ok)) (fun x i=>fun _ tm h _=>one tm x fun v=>ai (Av v) fun vs=>same (vs[i]?)) (fun c=>fun E tm h new=>fc E tm h new c) (fun _=>fun _ _ _ _=>none) (fun _=>fun _ _ _ _=>none) (fun _=>fun _ _ _ _=>none) (fun _ _=>fun _ _ _ _=>none) (fun _ _ _=>fun _ _ _ _=>none) (fun _ _=>fun _ _ _ _=>none) o
def opA (E:Env) (op:Op) (tm:Tf) (h:Hf) (new:Nat):Option (SV×List Up):=opD op E tm h new
inductive Ex where
 |normal|exit (id:Nat)|ret|pan (v:SV)
 deriving Inhabited
def setArgs (vs:List SV):Nat->Tr SV->Tr SV:= @List.rec SV (fun _=>Nat->Tr SV->Tr SV) (fun _ t=>t) (fun v _ ih i t=>ih (Nat.add i 1) (t.set i (some v))) vs
def oi (nt:Nat) (tm:Tr SV):List Nat->List SV->Option (Tr SV)
 | [],[]=>some tm
 |p::ps,v::vs=>sel (Nat.ble (Nat.succ p) nt) (oi nt (tm.set p (some v)) ps vs) none
 |_,_=>none
def bc (tm:Tr SV) (d:Option Nat) (v:SV):Tr SV:= @Option.rec Nat (fun _=>Tr SV) tm (fun d=>tm.set d (some v)) d
def cm (nt:Nat) (d:Option Nat):Bool:= @Option.rec Nat (fun _=>Bool) true (fun d=>Nat.ble (Nat.succ d) nt) d
def ail (x:SV):Bool->Option Bool:= @SV.rec (fun _=>Bool->Option Bool) (fun _=>PUnit) (fun b=>fun want=>some (b==want)) (fun _ _=>fun _=>none) (fun _=>fun _=>none) (fun _ _=>fun _=>none) (fun _=>none) (fun _ _ _ _=>fun _=>none) (fun _=>none) (fun _=>none) (fun _=>fun _=>none) (fun _=>none) (fun _ _ _ _ _=>fun _=>none) (fun _=>fun _=>none) (fun _=>none) (fun _ _ _=>fun _=>none) (fun _=>none) (fun _ _=>fun _=>none) (fun _ _=>fun _=>some false) (fun _=>none) PUnit.unit (fun _ _ _ _=>PUnit.unit) x
def PD (want:Bool) (x:SV):Option Bool:=ail x want
def qA (l:List Oper):Nat->Option Nat:= @List.rec Oper (fun _=>Nat->Option Nat) (fun _=>none) (fun o _ ih j=> @Nat.rec (fun _=>Option Nat) o.dst (fun k _=>ih k) j) l
def mj (ops:List Oper) (tm:Tf) (j:Nat) (want:Bool):Option Bool:= @Option.rec Nat (fun _=>Option Bool) (some false) (fun t=>ai (tm t) (PD want)) (qA ops j)
def bJ (ops:List Oper) (o:Oper) (tm:Tf):Option Bool:= @Option.rec (Nat×Bool) (fun _=>Option Bool) (some true) (fun g=>mj ops tm g.1 g.2) o.guard
def AS (E:Env) (tm:Tf) (h:Hf):ResultVar->Option SV
 | .tmp t=>tm t
 | .cell t ty=>ai (tm t) (iE E h ty)
def gH (E:Env) (tm:Tf) (h:Hf):List ResultVar->Option (List SV)
 | []=>some []
 |r::rs=>aC (AS E tm h r) (gH E tm h rs) fun v l=>some (v::l)
def oneOf:List SV->SV
 | [v]=>v
 |vs=>.tup vs
def qg:List UInt8->List UInt8->Bool
 | [],[]=>false
 | [],_::_=>true
 |_::_,[]=>false
 |a::l,b::m=>sel (Nat.ble (Nat.succ a.toNat) b.toNat) true (sel (Nat.beq a.toNat b.toNat) (qg l m) false)
def cpB:Cp->Cp->Bool
 | .k a,.k b=>Nat.beq a b
 | .u a,.u b=>Nat.beq a b
 |_,_=>false
def qZ (a b:ByteArray):Int:=sel (qg a.data.toList b.data.toList) (-1) (sel (j5 a.data.toList b.data.toList) 0 1)
structure Rc where
 i:Nat
 call:Bool
 rd:List Nat
 wr:List Nat
 lo:Nat
 hi:Nat
inductive Dm where
 |mark (d:Nat)
 |fn (k:FuncId) (args dr:List SV)
inductive Job where
 |code (nt:Nat) (c:Code) (tm:Tr SV) (mk:List Dm) (h:Hs)
 |ops (nt:Nat) (all l:List Oper) (tm:Tr SV) (mk:List Dm) (h:Hs)
 |draw (nt W:Nat) (all:List Oper) (base i M:Nat) (prev:List Rc) (l:List Oper) (tm:Tr SV) (h:Hs)
 |call (f:SV) (args:List SV) (h:Hs)
structure Oc where
 e:Ex
 tm:Tr SV
 dm:List Dm
 h:Hs
structure Rs where
 pan:Bool
 v:SV
 h:Hs
inductive Out where
 |aS (l:List Oc)
 |st (tm:Tr SV) (h:Hs)
 |bX (l:List Rs)
 |fail (why:String)
 |qj (k:Nat) (args:List SV) (h:Hs)
 deriving Inhabited
abbrev Out.code (e:Ex) (tm:Tr SV) (mk:List Dm) (h:Hs):Out:=.aS [⟨e,tm,mk,h⟩]
abbrev Out.res (v:SV) (h:Hs):Out:=.bX [⟨false,v,h⟩]
abbrev Out.pan (v:SV) (h:Hs):Out:=.bX [⟨true,v,h⟩]
def L4:Out->Out->Out
 | .aS a,.aS b=>.aS (a++b)
 | .bX a,.bX b=>.bX (a++b)
 | .fail s,_=>.fail s
 |_,.fail s=>.fail s
 |_,_=>.fail "app"
def me {α:Type} (k:α->Out) (l:List α):Out:=
 @List.rec α (fun _=>Out) (.fail "no way") (fun o l ih=> @List.rec α (fun _=>Out) (k o) (fun _ _ _=>L4 (k o) ih) l) l
def qy (r:Out) (k:Ex->Tr SV->List Dm->Hs->Out):Out:= @Out.rec (fun _=>Out) (fun l=>me (fun o=>k o.e o.tm o.dm o.h) l) (fun _ _=>.fail "onCode") (fun _=>.fail "onCode") (fun s=>.fail s) (fun a b c=>.qj a b c) r
def stK (r:Out) (kc:Ex->Tr SV->List Dm->Hs->Out) (k:Tr SV->Hs->Out):Out:= @Out.rec (fun _=>Out) (fun l=>me (fun o=>kc o.e o.tm o.dm o.h) l) k (fun _=>.fail "stK") (fun s=>.fail s) (fun a b c=>.qj a b c) r
def DF (r:Out) (k kp:SV->Hs->Out):Out:= @Out.rec (fun _=>Out) (fun _=>.fail "resK") (fun _ _=>.fail "resK") (fun l=>me (fun r=>sel r.pan (kp r.v r.h) (k r.v r.h)) l) (fun s=>.fail s) (fun a b c=>.qj a b c) r
def one1 (l:List Rs) (k:Rs->Out):Out:= @List.rec Rs (fun _=>Out) (.fail "no way") (fun r l _=> @List.rec Rs (fun _=>Out) (k r) (fun _ _ _=>.fail "many ways") l) l
def DO (r:Out) (k kp:SV->Hs->Out):Out:= @Out.rec (fun _=>Out) (fun _=>.fail "oneK") (fun _ _=>.fail "oneK") (fun l=>one1 l fun r=>sel r.pan (kp r.v r.h) (k r.v r.h)) (fun s=>.fail s) (fun a b c=>.qj a b c) r
def seqE (e:Ex) (tm:Tr SV) (mk:List Dm) (h:Hs) (k:Tr SV->List Dm->Hs->Out):Out:= @Ex.rec (fun _=>Out) (k tm mk h) (fun id=>.code (.exit id) tm mk h) (.code .ret tm mk h) (fun v=>.code (.pan v) tm mk h) e
def sD (r:Out) (k:Tr SV->List Dm->Hs->Out):Out:=qy r fun e tm mk h=>seqE e tm mk h k
def leave (id:Nat) (e:Ex):Ex:= @Ex.rec (fun _=>Ex) .normal (fun id'=>sel (Nat.beq id' id) .normal (.exit id')) .ret (fun v=>.pan v) e
def B2 (id:Nat) (r:Out):Out:=qy r fun e tm mk h=>.code (leave id e) tm mk h
def BX (v:Option SV) (a b:Out):Out:= @Option.rec Bool (fun _=>Out) (.fail "cond") (fun c=>sel c a b) (ai v iC)
def adn (j:Option Code) (tm:Tr SV) (mk:List Dm) (h:Hs):Out:=
 match j with
 |none=>.code .normal tm mk h
 |some c=>(match c with| .ret=>.code .ret tm mk h| .exit id=>.code (.exit id) tm mk h|_=>.fail "pending")
def DW:LoopState->Bool
 | .busy=>false
 |_=>true
def Aa (l d:Nat) (tm:Tr SV) (mk:List Dm) (h:Hs):Out:=
 match h.hp.get l with
 |some (.loop nt tm0 ps aa bo st im dd)=>sel (DW st) (adn im tm (.mark d::mk) (h.put l (.loop nt tm0 ps aa bo .exhausted im dd))) (.fail "loop busy")
 |_=>.fail "loop lost"
def iz (nt:Nat) (tm:Tr SV) (ps:List Nat) (assign body:Code) (h:Hs):Hs:=
 ⟨(h.hp.set h.nx (some .dfr)).set (Nat.add h.nx 1) (some (.loop nt tm ps assign body .ready none h.nx)),Nat.add h.nx 2,h.lg⟩
def uE (E:Env):SV->Bool
 | .fn (.func k) _ _=> @Option.rec Func (fun _=>Bool) false (fun fn=>fn.body.isSome) (E.fn.get k)
 |_=>false
def JW (E:Env) (rec:Job->Out) (nt:Nat) (g:Option SV) (ps:List Nat) (assign body:Code) (tm:Tr SV) (mk:List Dm) (h:Hs):Out:=
 match g with
 |some g=>sel (uE E g) (DO (rec (.call g [.yld (Nat.add h.nx 1)] (iz nt tm ps assign body h))) (fun _ h2=>Aa (Nat.add h.nx 1) h.nx tm mk h2) fun _ _=>.fail "panic in a range") (.fail "rangeFunc")
 |none=>.fail "rangeFunc"
def adH (c:Code):Env->(Job->Out)->Nat->Tr SV->List Dm->Hs->Out:= @Code.rec (fun _=>Env->(Job->Out)->Nat->Tr SV->List Dm->Hs->Out)
 (fun _ _ _ tm mk h=>.code .normal tm mk h)
 (fun _ ops draw _ rec nt tm mk h=>sel draw (stK (rec (.draw nt ops.size ops.toList h.nx 0 0 [] ops.toList tm ⟨h.hp,Nat.add h.nx ops.size,h.lg⟩)) (fun e tm' _ h'=>.code e tm' mk h') fun tm' h'=>.code .normal tm' mk h') (rec (.ops nt ops.toList ops.toList tm mk h)))
 (fun a b _ _ _ rec nt tm mk h=>sD (rec (.code nt a tm mk h)) fun tm' mk' h'=>rec (.code nt b tm' mk' h'))
 (fun c a b _ _ _ rec nt tm mk h=>BX (aI tm.get c) (rec (.code nt a tm mk h)) (rec (.code nt b tm mk h)))
 (fun id c _ _ rec nt tm mk h=>B2 id (rec (.code nt c tm mk h)))
 (fun c _ _ rec nt tm mk h=>sD (rec (.code nt c tm mk h)) fun tm' mk' h'=>rec (.code nt (.loop c) tm' mk' h'))
 (fun f ps aa bo _ _ E rec nt tm mk h=>JW E rec nt (aI tm.get f) ps.toList aa bo tm mk h)
 (fun id _ _ _ tm mk h=>.code (.exit id) tm mk h)
 (fun _ _ _ _ _ _ _ _=>.fail "scope")
 (fun _ _ _ _ _ _ _=>.fail "label")
 (fun _ _ _ _ _ _ _=>.fail "goto")
 (fun _ _ _ tm mk h=>.code .ret tm mk h)
 (fun _ _ _ _ _ _ _=>.fail "refuse") c
def fq (tm:Tf):Callee->Option SV
 | .value x=>aI tm x
 |_=>none
def isValue:Callee->Bool
 | .value _=>true
 |_=>false
def dG (o:Op):Option Call:= @Op.rec (fun _=>Option Call) (fun _=>none) (fun _=>none) (fun _ _ _=>none) (fun _=>none) (fun _ _=>none) (fun _ _=>none) (fun _ _ _=>none) (fun _ _ _ _=>none) (fun _ _=>none) (fun _ _ _=>none) (fun _=>none) (fun _=>none) (fun _=>none) (fun _ _ _ _ _=>none) (fun _ _ _=>none) (fun _ _ _=>none) (fun _ _=>none) (fun _ _=>none) (fun _ _ _=>none) (fun _ _=>none) (fun _ _=>none) (fun _ _ _=>none) (fun _ _ _ _ _=>none) (fun _ _ _=>none) (fun _ _ _=>none) (fun _ _ _=>none) (fun _ _ _=>none) (fun _ _ _ _=>none) (fun _ _ _ _=>none) (fun _ _ _=>none) (fun _ _ _ _=>none) (fun _ _=>none) (fun _ _=>none) (fun _=>none) (fun _ _ _ _=>none) (fun _ _=>none) (fun c=>sel (isValue c.callee) (some c) none) (fun _=>none) (fun _=>none) (fun _=>none) (fun _ _=>none) (fun _ _ _=>none) (fun _ _=>none) o
def uj (x:Nat):List Nat->Bool
 | []=>false
 |y::l=>sel (Nat.beq x y) true (uj x l)
def mv (o:Op):Option Call:= @Op.rec (fun _=>Option Call) (fun _=>none) (fun _=>none) (fun _ _ _=>none) (fun _=>none) (fun _ _=>none) (fun _ _=>none) (fun _ _ _=>none) (fun _ _ _ _=>none) (fun _ _=>none) (fun _ _ _=>none) (fun _=>none) (fun _=>none) (fun _=>none) (fun _ _ _ _ _=>none) (fun _ _ _=>none) (fun _ _ _=>none) (fun _ _=>none) (fun _ _=>none) (fun _ _ _=>none) (fun _ _=>none) (fun _ _=>none) (fun _ _ _=>none) (fun _ _ _ _ _=>none) (fun _ _ _=>none) (fun _ _ _=>none) (fun _ _ _=>none) (fun _ _ _=>none) (fun _ _ _ _=>none) (fun _ _ _ _=>none) (fun _ _ _=>none) (fun _ _ _ _=>none) (fun _ _=>none) (fun _ _=>none) (fun _=>none) (fun _ _ _ _=>none) (fun _ _=>none) (fun _=>none) (fun _=>none) (fun c=>sel (isValue c.callee) (some c) none) (fun _=>none) (fun _ _=>none) (fun _ _ _=>none) (fun _ _=>none) o
def kR (o:Op):Option Operand:= @Op.rec (fun _=>Option Operand) (fun _=>none) (fun _=>none) (fun _ _ _=>none) (fun _=>none) (fun _ _=>none) (fun _ _=>none) (fun _ _ _=>none) (fun _ _ _ _=>none) (fun _ _=>none) (fun _ _ _=>none) (fun _=>none) (fun _=>none) (fun _=>none) (fun _ _ _ _ _=>none) (fun _ _ _=>none) (fun _ _ _=>none) (fun _ _=>none) (fun _ _=>none) (fun _ _ _=>none) (fun _ _=>none) (fun _ _=>none) (fun _ _ _=>none) (fun _ _ _ _ _=>none) (fun _ _ _=>none) (fun _ _ _=>none) (fun _ _ _=>none) (fun _ _ _=>none) (fun _ _ _ _=>none) (fun _ _ _ _=>none) (fun _ _ _=>none) (fun _ _ _ _=>none) (fun _ _=>none) (fun _ _=>none) (fun _=>none) (fun _ _ _ _=>none) (fun _ _=>none) (fun _=>none) (fun _=>none) (fun _=>none) (fun x=>some x) (fun _ _=>none) (fun _ _ _=>none) (fun _ _=>none) o
def goK (rec:Job->Out) (h:Hs) (f:Option SV) (aa:Option (List SV)) (k kp:SV->Hs->Out):Out:=
 @Option.rec (SV×List SV) (fun _=>Out) (.fail "call") (fun p=>DF (rec (.call p.1 p.2 h)) k kp) (aC f aa fun f aa=>some (f,aa))
def Rn (rec:Job->Out) (h:Hs) (f:Option SV) (aa:Option (List SV)) (k kp:SV->Hs->Out):Out:=
 @Option.rec (SV×List SV) (fun _=>Out) (.fail "call") (fun p=>DO (rec (.call p.1 p.2 h)) k kp) (aC f aa fun f aa=>some (f,aa))
def jP (rec:Job->Out) (nt:Nat) (all l:List Oper) (tm:Tr SV) (mk:List Dm) (d:Option Nat) (v:SV) (h:Hs):Out:=rec (.ops nt all l (bc tm d v) mk h)
def PE (rec:Job->Out) (nt:Nat) (all l:List Oper) (tm:Tr SV) (mk:List Dm) (h:Hs) (o:Oper) (r:Option (SV×List Up)):Out:=
 @Option.rec (SV×List Up) (fun _=>Out) (.fail o.pos) (fun r=>jP rec nt all l tm mk o.dst r.1 (h.fin r.2)) r
def mG (o:Op):Option (Operand×Bool):= @Op.rec (fun _=>Option (Operand×Bool)) (fun _=>none) (fun _=>none) (fun _ _ _=>none) (fun _=>none) (fun _ _=>none) (fun _ _=>none) (fun _ _ _=>none) (fun _ _ _ _=>none) (fun _ _=>none) (fun _ _ _=>none) (fun _=>none) (fun _=>none) (fun _=>none) (fun _ _ _ _ _=>none) (fun _ _ _=>none) (fun _ _ _=>none) (fun _ _=>none) (fun _ _=>none) (fun _ _ _=>none) (fun _ _=>none) (fun _ _=>none) (fun _ _ _=>none) (fun _ _ _ _ _=>none) (fun _ _ _=>none) (fun _ _ _=>none) (fun _ _ _=>none) (fun _ _ _=>none) (fun _ _ _ _=>none) (fun _ _ _ _=>none) (fun _ _ _=>none) (fun _ _ _ _=>none) (fun _ _=>none) (fun it isS=>sel isS none (some (it,false))) (fun it=>some (it,true)) (fun _ _ _ _=>none) (fun _ _=>none) (fun _=>none) (fun _=>none) (fun _=>none) (fun _=>none) (fun _ _=>none) (fun _ _ _=>none) (fun _ _=>none) o
def uo (seen:List Nat) (es:List (SV×SV×Nat)):List (SV×SV×Nat):=es.filter fun e=> !uj e.2.2 seen
def iterM (since:Nat) (seen:List Nat) (last c:Nat) (es:List (SV×SV×Nat)):Bool:=
 es.all (fun e=>Nat.ble (Nat.succ e.2.2) since)&&Nat.ble since last
def N4 (rec:Job->Out) (nt:Nat) (all l:List Oper) (tm:Tr SV) (mk:List Dm) (h:Hs) (d:Option Nat) (id m since:Nat) (seen:List Nat) (c:Nat) (es:List (SV×SV×Nat)):Out:=
 @List.rec (SV×SV×Nat) (fun _=>Out) (jP rec nt all l tm mk d (.tup [.bool false]) h) (fun _ _ _=>me (fun e=>jP rec nt all l tm mk d (.tup [.bool true,e.1,e.2.1]) (h.put id (.mapIter (some m) since (seen++ [e.2.2]) c))) (uo seen es)) (uo seen es)
def QG:List Nat->Option Nat
 | []=>none
 | [a]=>some a
 |_::l=>QG l
def Gw (b:Nat):List (SV×SV×Nat)->Option SV
 | []=>none
 |e::es=>sel (Nat.beq e.2.2 b) (some (.tup [e.1,e.2.1])) (Gw b es)
def tD (h:Hf) (id:Nat):Option SV:=
 match h id with
 |some (.mapIter (some m) since seen last)=>
  (match h m with
  |some (.map es c)=>sel (Nat.beq c last) (ai (QG seen) fun b=>Gw b es) none
  |_=>none)
 |_=>none
def BN (rec:Job->Out) (nt:Nat) (all l:List Oper) (tm:Tr SV) (mk:List Dm) (h:Hs) (d:Option Nat) (r:Option SV):Out:= @Option.rec SV (fun _=>Out) (.fail "entry") (fun v=>jP rec nt all l tm mk d v h) r
def m9 (rec:Job->Out) (nt:Nat) (all l:List Oper) (tm:Tr SV) (mk:List Dm) (h:Hs) (d:Option Nat) (id:Nat):Out:=
 match h.hp.get id with
 |some (.mapIter none _ _ _)=>jP rec nt all l tm mk d (.tup [.bool false]) h
 |some (.mapIter (some m) since seen last)=>
  (match h.hp.get m with
  |some (.map es c)=>sel (iterM since seen last c es) (N4 rec nt all l tm mk h d id m since seen c es) (.fail "the map was written")
  |_=>.fail "no map")
 |_=>.fail "no iterator"
def QL (rec:Job->Out) (nt:Nat) (all l:List Oper) (tm:Tr SV) (mk:List Dm) (h:Hs) (d:Option Nat) (isE:Bool) (v:Option SV):Out:=
 @Option.rec Nat (fun _=>Out) (.fail "next") (fun id=>sel isE (BN rec nt all l tm mk h d (tD h.hp.get id)) (m9 rec nt all l tm mk h d id)) (ai v mi)
def vO (x:SV) (aa:List SV):Option Dm:=
 match x with
 | .fn (.func k) fi ca=>some (.fn k (fi++aa) ca)
 |_=>none
def LI (rec:Job->Out) (nt:Nat) (all l:List Oper) (tm:Tr SV) (mk:List Dm) (h:Hs) (o:Oper) (d:Option Dm):Out:=
 @Option.rec Dm (fun _=>Out) (.fail "defer") (fun d=>jP rec nt all l tm (d::mk) o.dst .undef h) d
def DJ:SV->Option SV
 | .ifc t v=>some (.ifc t v)
 |_=>none
def A3 (tm:Tr SV) (mk:List Dm) (h:Hs) (v:Option SV):Out:= @Option.rec SV (fun _=>Out) (.fail "panic") (fun v=>.code (.pan v) tm mk h) v
def AQ (E:Env) (rec:Job->Out) (nt:Nat) (all l:List Oper) (tm:Tr SV) (mk:List Dm) (h:Hs) (o:Oper) (it:Option (Operand×Bool)):Out:=
 @Option.rec (Operand×Bool) (fun _=>Out) (PE rec nt all l tm mk h o (opA E o.op tm.get h.hp.get h.nx)) (fun x=>QL rec nt all l tm mk h o.dst x.2 (aI tm.get x.1)) it
def Ge (E:Env) (rec:Job->Out) (nt:Nat) (all l:List Oper) (tm:Tr SV) (mk:List Dm) (h:Hs) (o:Oper) (d:Option Call) (p:Option Operand):Out:=
 @Option.rec Call (fun _=>Out) (@Option.rec Operand (fun _=>Out) (AQ E rec nt all l tm mk h o (mG o.op)) (fun x=>A3 tm mk h (ai (aI tm.get x) DJ)) p)
  (fun c=>LI rec nt all l tm mk h o (aC (fq tm.get c.callee) (bE tm.get c.args.toList) vO)) d
def doK (E:Env) (rec:Job->Out) (nt:Nat) (all l:List Oper) (tm:Tr SV) (mk:List Dm) (h:Hs) (o:Oper) (c:Option Call):Out:=
 @Option.rec Call (fun _=>Out) (Ge E rec nt all l tm mk h o (mv o.op) (kR o.op)) (fun c=>goK rec h (fq tm.get c.callee) (bE tm.get c.args.toList) (jP rec nt all l tm mk o.dst) fun v h=>.code (.pan v) tm mk h) c
def xk (E:Env) (rec:Job->Out) (nt:Nat) (all l:List Oper) (tm:Tr SV) (mk:List Dm) (h:Hs) (o:Oper) (w:Option Bool):Out:=
 @Option.rec Bool (fun _=>Out) (.fail "wanted") (fun w=>sel w (doK E rec nt all l tm mk h o (dG o.op)) (jP rec nt all l tm mk o.dst (.tup []) h)) w
def N3 (E:Env) (rec:Job->Out) (nt:Nat) (all l:List Oper) (tm:Tr SV) (mk:List Dm) (h:Hs):Out:=
 @List.rec Oper (fun _=>Out) (.code .normal tm mk h) (fun o l _=>sel (cm nt o.dst) (xk E rec nt all l tm mk h o (bJ all o tm.get)) (.fail "slot")) l
def force {β:Type} (m:Nat) (f:Nat->β):β:=Nat.rec (f 0) (fun k _=>f (k+1)) m
def dB (o:Oper):List Nat:=(o.after.toList.filter (Region.binds .any ·)).map (·.on)
def fD (W M:Nat):List Nat->Nat
 | []=>0
 |i::ds=>Nat.lor (fD W M ds) (Nat.lor (Nat.shiftLeft 1 i) (Nat.mod (Nat.shiftRight M (Nat.mul i W)) (Nat.pow 2 W)))
def dM (m i:Nat):Bool:=Nat.beq (Nat.land (Nat.shiftRight m i) 1) 1
def ep (x:Nat):List Nat->Bool
 | []=>false
 |y::l=>sel (Nat.beq x y) true (ep x l)
def jg:List Nat->List Nat->Bool
 | [],_=>true
 |x::l,m=>sel (ep x m) false (jg l m)
def sH:List Nat->Bool
 | []=>true
 |_=>false
def jO (lo hi:Nat):List Nat->Bool
 | []=>true
 |x::l=>sel (Nat.ble (Nat.succ x) lo) (jO lo hi l) (sel (Nat.ble hi x) (jO lo hi l) false)
def tB (p r:Rc):Bool:=
 jO p.lo p.hi r.rd&&(jO p.lo p.hi r.wr&&(jO r.lo r.hi p.rd&&(jO r.lo r.hi p.wr&&(jg p.rd r.wr&&(jg r.rd p.wr&&(jg p.wr r.wr &&
  sel p.call (sel r.call false (sH r.wr)) (sel r.call (sH p.wr) true)))))))
def cZ (m:Nat) (r:Rc):List Rc->Bool
 | []=>true
 |p::ps=>sel (dM m p.i) (cZ m r ps) (sel (tB p r) (cZ m r ps) false)
def gp (j:Nat):List Nat->Bool
 | []=>true
 |i::l=>sel (Nat.ble (Nat.succ i) j) (gp j l) false
def eI:Option SV->List Nat
 |some (.ptr i _)=> [i]
 |some (.sl i _ _ _)=> [i]
 |some (.mp i)=> [i]
 |_=> []
def iF (tm:Tf):List Operand->List Nat
 | []=> []
 |x::xs=>eI (aI tm x)++iF tm xs
def idM:Option SV->List Nat
 |some (.mp i)=> [i]
 |_=> []
def ur (tm:Tf):List Operand->List Nat
 | []=> []
 |x::xs=>idM (aI tm x)++ur tm xs
def kD (c:Call):Bool:=
 match c.callee with
 | .builtin .len=>true
 |_=>false
def eP (op:Op) (tm:Tf):List Nat:=
 match op with
 | .load _ x=>iF tm [x]
 | .store _ x y=>iF tm [x,y]
 | .lookup _ x k _=>iF tm [x,k]
 | .mapUpdate _ m k x=>iF tm [m,k,x]
 | .insert _ m k x=>iF tm [m,k,x]
 | .next it _=>iF tm [it]
 | .range _ x=>iF tm [x]
 | .call c=>sel (kD c) (ur tm c.args.toList) (iF tm c.args.toList)
 |_=> []
def gZ (new:Nat):List Up->List Nat
 | []=> []
 |u::us=>sel (Nat.beq u.1 new) (gZ new us) (u.1::gZ new us)
def below (n:Nat):List Nat->List Nat->List Nat
 | [],acc=>acc
 |x::l,acc=>sel (Nat.ble (Nat.succ x) n) (below n l (x::acc)) (below n l acc)
def fR (m:Nat):List Rc->Hp->Hp
 | [],hp=>hp
 |p::ps,hp=>sel (dM m p.i) (fR m ps hp) (fR m ps (hp.set p.lo none))
def eD (m:Nat) (old:Hp):List Rc->Hp->Hp
 | [],hp=>hp
 |p::ps,hp=>sel (dM m p.i) (eD m old ps hp) (eD m old ps (hp.set p.lo (old.get p.lo)))
def jQ (rec:Job->Out) (nt W:Nat) (all:List Oper) (base i M m:Nat) (prev:List Rc) (l:List Oper) (tm:Tr SV) (d:Option Nat) (r:Rc) (v:SV) (h:Hs):Out:=
 sel (cZ m r prev) (force (Nat.lor M (Nat.shiftLeft m (Nat.mul i W))) fun M'=>rec (.draw nt W all base (Nat.add i 1) M' (r::prev) l (bc tm d v) h)) (.fail "order")
def PF (rec:Job->Out) (nt W:Nat) (all:List Oper) (base i M m:Nat) (prev:List Rc) (l:List Oper) (tm:Tr SV) (h:Hs) (o:Oper) (r:Option (SV×List Up)):Out:=
 @Option.rec (SV×List Up) (fun _=>Out) (.fail o.pos) (fun r=>jQ rec nt W all base i M m prev l tm o.dst ⟨i,false,eP o.op tm.get,gZ (Nat.add base i) r.2,Nat.add base i,Nat.add (Nat.add base i) 1⟩ r.1 (h.ups r.2)) r
def Gi:List Oper->Bool
 | []=>true
 |_=>false
def nn (m:Nat):Nat->Bool
 |0=>true
 |i+1=>dM m i&&nn m i
def nJ (m:Nat):List Rc->Bool
 | []=>true
 |p::ps=>dM m p.i&&nJ m ps
def doD (E:Env) (rec:Job->Out) (nt W:Nat) (all:List Oper) (base i M m:Nat) (prev:List Rc) (l:List Oper) (tm:Tr SV) (h:Hs) (o:Oper) (c:Option Call):Out:=
 @Option.rec Call (fun _=>Out) (PF rec nt W all base i M m prev l tm h o (opA E o.op tm.get h.hp.get (Nat.add base i)))
  (fun c=>Rn rec ⟨fR m prev h.hp,h.nx,[]⟩ (fq tm.get c.callee) (bE tm.get c.args.toList) (fun v h2=>
   jQ rec nt W all base i M m prev l tm o.dst ⟨i,true,[],below h.nx h2.lg [],h.nx,h2.nx⟩ v ⟨eD m h.hp prev h2.hp,h2.nx,below h.nx h2.lg h.lg⟩)
   fun v h2=>sel (Gi l && (nn m i && nJ m prev)) (.code (.pan v) tm [] ⟨h2.hp,h2.nx,below h.nx h2.lg h.lg⟩) (.fail "panic in a drawn region")) c
def F6 (E:Env) (rec:Job->Out) (nt W:Nat) (all:List Oper) (base i M m:Nat) (prev:List Rc) (l:List Oper) (tm:Tr SV) (h:Hs) (o:Oper) (w:Option Bool):Out:=
 @Option.rec Bool (fun _=>Out) (.fail "wanted") (fun w=>sel w (doD E rec nt W all base i M m prev l tm h o (dG o.op)) (jQ rec nt W all base i M m prev l tm o.dst ⟨i,false,[],[],Nat.add base i,Nat.add (Nat.add base i) 1⟩ (.tup []) h)) w
def Ip (E:Env) (rec:Job->Out) (nt W:Nat) (all:List Oper) (base i M:Nat) (prev:List Rc) (l:List Oper) (tm:Tr SV) (h:Hs):Out:=
 @List.rec Oper (fun _=>Out) (.st tm h) (fun o l _=>sel (cm nt o.dst && gp i (dB o)) (force (Nat.mod (fD W M (dB o)) (Nat.pow 2 W)) fun m=>F6 E rec nt W all base i M m prev l tm h o (bJ all o tm.get)) (.fail "slot")) l
def Ih:List Operand->List Nat
 | []=> []
 |x::xs=>(match x with| .tmp t=>t::Ih xs|_=>Ih xs)
def looks (all:List Oper) (o:Oper):List Nat:=Ih o.op.operands.toList++(match o.guard with|some g=>(qA all g.1).toList|none=> [])
def s9 (all:List Oper) (p r:Oper):Bool:=jg p.dst.toList (looks all r)&&(jg r.dst.toList (looks all p)&&jg p.dst.toList r.dst.toList)
def qm (all:List Oper) (m:Nat) (r:Oper):Nat->List Oper->Bool
 |_,[]=>true
 |k,p::ps=>sel (dM m k) (qm all m r (Nat.sub k 1) ps) (sel (s9 all p r) (qm all m r (Nat.sub k 1) ps) false)
def nh (W:Nat) (all:List Oper):List Oper->Nat->Nat->List Oper->Bool
 | [],_,_,_=>true
 |o::l,i,M,prev=>force (Nat.mod (fD W M (dB o)) (Nat.pow 2 W)) fun m=>sel (qm all m o (Nat.sub i 1) prev) (force (Nat.lor M (Nat.shiftLeft m (Nat.mul i W))) fun M'=>nh W all l (Nat.add i 1) M' (o::prev)) false
def codeOk (c:Code):Bool:= @Code.rec (fun _=>Bool) true (fun _ ops draw=>sel draw (nh ops.size ops.toList ops.toList 0 0 []) true) (fun _ _ a b=>a&&b) (fun _ _ _ a b=>a&&b) (fun _ _ a=>a) (fun _ a=>a) (fun _ _ _ _ a b=>a&&b) (fun _=>true) (fun _ a=>a) (fun _=>true) (fun _=>true) true (fun _=>true) c
def Ro (fn:Func):Bool:= @Option.rec Code (fun _=>Bool) true codeOk fn.body
def GD (e:Ex):Option (Option SV):= @Ex.rec (fun _=>Option (Option SV)) (some none) (fun _=>none) (some none) (fun v=>some (some v)) e
def oz (o:Oper):Bool:=
 match o.op,o.guard with
 | .call c,none=>(match c.callee with| .builtin .recover=>Nat.beq c.args.size 0|_=>false)
 |_,_=>false
def Qg:Option SV->SV
 |none=>.cN
 |some v=>v
def oA (s:String):Bool:=s== "runtime.NumGoroutine"
def Y6:List Dm->Bool
 | []=>true
 |_=>false
def qH (e:Ex):Bool:= @Ex.rec (fun _=>Bool) true (fun _=>false) true (fun _=>false) e
def eH (e:Ex):Bool:= @Ex.rec (fun _=>Bool) true (fun _=>false) false (fun _=>false) e
def RQ (E:Env) (rec:Job->Out) (fn:Func) (rest:Code) (r:Out) (k:Hs->Out):Out:=
 qy r fun e tm mk h=>sel (eH e&&Y6 mk) (qy (rec (.code fn.ntmps rest tm [] h)) fun e2 tm2 mk2 h2=>
  sel (qH e2 && Y6 mk2) (@Option.rec (List SV) (fun _=>Out) (.fail "results") (fun _=>k h2) (gH E tm2.get h2.hp.get fn.results.toList)) (.fail "deferred")) (.fail "deferred")
def adG (E:Env) (rec:Job->Out) (fn:Func) (aa:List SV) (u:Option SV) (h:Hs) (all:List Oper) (rest:Code) (k:Hs->Out):Out:=
 @List.rec Oper (fun _=>Out) (.fail "deferred") (fun o l _=>sel (oz o && cm fn.ntmps o.dst) (RQ E rec fn rest (rec (.ops fn.ntmps all l (bc (setArgs aa 0 .nil) o.dst (Qg u)) [] h)) k) (.fail "no recover")) all
def RT (E:Env) (rec:Job->Out) (fn:Func) (aa:List SV) (u:Option SV) (h:Hs) (k:Hs->Out) (c:Option Code):Out:=
 match c with
 |some (.seq (.region _ ops false) rest)=>sel (Nat.ble aa.length fn.ntmps) (sel (oA fn.name) (.fail "NumGoroutine") (adG E rec fn aa u h ops.toList rest k)) (.fail "args")
 |_=>.fail "deferred body"
def RS (E:Env) (rec:Job->Out) (fn:Option Func) (aa:List SV) (u:Option SV) (h:Hs) (k:Hs->Out):Out:= @Option.rec Func (fun _=>Out) (.fail "no function") (fun fn=>RT E rec fn aa u h k fn.body) fn
def aae (E:Env) (fn:Func) (tm:Tr SV) (u:Option SV) (h:Hs):Out:=
 @Option.rec SV (fun _=>Out) (@Option.rec (List SV) (fun _=>Out) (.fail fn.name) (fun vs=>.res (oneOf vs) h) (gH E tm.get h.hp.get fn.results.toList)) (fun v=>.pan v h) u
def jA (E:Env) (rec:Job->Out) (fn:Func) (tm:Tr SV):List Dm->Option SV->Hs->Out
 | [],u,h=>aae E fn tm u h
 | .mark d::mk,u,h=>(match h.hp.get d with|some .dfr=>jA E rec fn tm mk u ⟨h.hp.set d none,h.nx,d::h.lg⟩|_=>.fail "mark")
 | .fn k aa ca::mk,u,h=>RS E rec (E.fn.get k) (aa++ca) u h fun h'=>jA E rec fn tm mk none h'
def BV (nx:Nat) (lg:List Nat) (r:Out):Out:=DF r (fun v h=>.res v ⟨h.hp,h.nx,below nx h.lg lg⟩) fun v h=>.pan v ⟨h.hp,h.nx,below nx h.lg lg⟩
mutual
def svB:SV->SV->Bool
 | .bool a,.bool b=>(sel a b (!b))
 | .int k a,.int k' b=>cn k k'&&a.eqb b
 | .str a,.str b=>qk a b
 | .ptr a b,.ptr c d=>Nat.beq a c&&Nat.beq b d
 | .cX,.cX=>true
 | .sl a b c d,.sl a' b' c' d'=>Nat.beq a a'&&(Nat.beq b b'&&(Nat.beq c c'&&cpB d d'))
 | .sle,.sle=>true
 | .aT,.aT=>true
 | .mp a,.mp b=>Nat.beq a b
 | .cY,.cY=>true
 | .fn (.func k) a c,.fn (.func k') a' c'=>Nat.beq k k'&&(C3 a a'&&C3 c c')
 | .dy,.dy=>true
 | .ifc t v,.ifc t' v'=>Nat.beq t t'&&svB v v'
 | .cN,.cN=>true
 | .agg l,.agg l'=>C3 l l'
 | .tup l,.tup l'=>C3 l l'
 |_,_=>false
def C3:List SV->List SV->Bool
 | [],[]=>true
 |x::l,y::m=>svB x y&&C3 l m
 |_,_=>false
end
def adC:List (SV×SV×Nat)->List (SV×SV×Nat)->Bool
 | [],[]=>true
 |x::l,y::m=>svB x.1 y.1&&(svB x.2.1 y.2.1&&(Nat.beq x.2.2 y.2.2&&adC l m))
 |_,_=>false
def soB:Option SO->Option SO->Bool
 |some (.cells e cs),some (.cells e' cs')=>Nat.beq e e'&&C3 cs cs'
 |some (.map es c),some (.map es' c')=>Nat.beq c c'&&adC es es'
 |_,_=>false
def meet (o:Hp):List Nat->Hp->Hp
 | [],hp=>hp
 |x::l,hp=>sel (soB (hp.get x) (o.get x)) (meet o l hp) (meet o l (hp.set x none))
def vK (E:Env) (rec:Job->Out) (fn:Func) (nx:Nat) (lg:List Nat) (r:Out):Out:=
 qy r fun e tm mk h=> @Option.rec (Option SV) (fun _=>Out) (.fail "exit") (fun u=>BV nx lg (jA E rec fn tm mk u h)) (GD e)
def Lq (fn:Func) (aa:List SV) (h:Hs):Out:=
 match aa with
 | [a,b]=>(match strOf a with|some a=>(match strOf b with|some b=>sel (fn.name== "internal/bytealg.abigen_runtime_cmpstring") (.res (.int .i64 (.lit (qZ a b))) h) (.fail fn.name)|_=>.fail fn.name)|_=>.fail fn.name)
 |_=>.fail fn.name
def LW (E:Env) (rec:Job->Out) (k:Nat) (fn:Func) (aa:List SV) (h:Hs):Out:=
 @Option.rec Code (fun _=>Out) (Lq fn aa h) (fun c=>sel (Nat.ble aa.length fn.ntmps) (sel (oA fn.name) (.fail "NumGoroutine") (vK E rec fn h.nx h.lg (rec (.code fn.ntmps c (setArgs aa 0 .nil) [] ⟨h.hp,h.nx,[]⟩)))) (.fail "args")) fn.body
def wy (E:Env) (rec:Job->Out) (k:Nat) (fn:Option Func) (aa:List SV) (h:Hs):Out:= @Option.rec Func (fun _=>Out) (.fail "no function") (fun fn=>LW E rec k fn aa h) fn
def finK (l:Nat) (h:Hs) (j:Option Code):Out:=
 match h.hp.get l with
 |some (.loop nt tm0 ps aa bo st im dd)=>.res (.bool j.isNone) (h.put l (.loop nt tm0 ps aa bo (sel j.isNone .ready .done) j dd))
 |_=>.fail "loop gone"
def exJ:Ex->Option Code
 | .normal=>none
 | .ret=>some .ret
 | .exit id=>some (.exit id)
 | .pan _=>none
def acp (e:Ex):Bool:= @Ex.rec (fun _=>Bool) true (fun _=>true) true (fun _=>false) e
def one2 (l:List Oc) (k:Oc->Out):Out:= @List.rec Oc (fun _=>Out) (.fail "no way") (fun r l _=> @List.rec Oc (fun _=>Out) (k r) (fun _ _ _=>.fail "many ways") l) l
def YZ (r:Out) (k:Ex->Tr SV->List Dm->Hs->Out):Out:= @Out.rec (fun _=>Out) (fun l=>one2 l fun o=>k o.e o.tm o.dm o.h) (fun _ _=>.fail "oneC") (fun _=>.fail "oneC") (fun s=>.fail s) (fun a b c=>.qj a b c) r
def JP (l:Nat) (r:Out):Out:=YZ r fun e _ mk h=>(match mk with| []=>sel (acp e) (finK l h (exJ e)) (.fail "panic in a round")|_=>.fail "marks in a round")
def isReady:LoopState->Bool
 | .ready=>true
 |_=>false
def adL (rec:Job->Out) (l nt:Nat) (bo:Code) (tm:Tr SV) (mk:List Dm) (h:Hs):Out:=
 match h.hp.get l with
 |some (.loop nt' tm0 ps aa bo' st im dd)=>(match mk with| []=>sel (isReady st) (JP l (rec (.code nt bo tm [] (h.put l (.loop nt' tm0 ps aa bo' .busy im dd))))) (.fail "not ready")|_=>.fail "marks")
 |_=>.fail "loop gone"
def U9 (rec:Job->Out) (l nt:Nat) (aa bo:Code) (tm1:Option (Tr SV)) (h:Hs):Out:=
 match tm1 with
 |none=>.fail "params"
 |some tm1=>YZ (rec (.code nt aa tm1 [] h)) fun e tm mk h1=>sel (eH e) (adL rec l nt bo tm mk h1) (.fail "assign")
def H7 (rec:Job->Out) (l:Nat) (o:Option SO) (aa:List SV) (h:Hs):Out:=
 match o with
 |some (.loop nt tm0 ps as' bo st im dd)=>sel (isReady st) (U9 rec l nt as' bo (oi nt tm0 ps aa) h) (.fail "yield")
 |_=>.fail "yield"
def r7 (k:Nat):List (Nat×SV)->Option SV
 | []=>none
 |p::l=>sel (Nat.beq p.1 k) (some p.2) (r7 k l)
def jn (E:Env) (k:Nat) (aa:List SV):Option SV:= @List.rec SV (fun _=>Option SV) (r7 k E.done) (fun _ _ _=>none) aa
mutual
def JT (τ:Nat->Nat):SV->SV
 | .bool b=>.bool b
 | .int k e=>.int k e
 | .str s=>.str s
 | .ptr a o=>.ptr (τ a) o
 | .cX=>.cX
 | .sl a o n c=>.sl (τ a) o n c
 | .sle=>.sle
 | .aT=>.aT
 | .mp a=>.mp (τ a)
 | .cY=>.cY
 | .fn f a c=>.fn f (rF τ a) (rF τ c)
 | .yld a=>.yld (τ a)
 | .dy=>.dy
 | .ifc t v=>.ifc t (JT τ v)
 | .cN=>.cN
 | .agg l=>.agg (rF τ l)
 | .tup l=>.tup (rF τ l)
 | .undef=>.undef
def rF (τ:Nat->Nat):List SV->List SV
 | []=> []
 |x::l=>JT τ x::rF τ l
end
def Qf (τ:Nat->Nat):List (SV×SV×Nat)->List (SV×SV×Nat)
 | []=> []
 |e::l=>(JT τ e.1,JT τ e.2.1,e.2.2)::Qf τ l
def renO (τ:Nat->Nat):SO->SO
 | .cells e cs=>.cells e (rF τ cs)
 | .map es c=>.map (Qf τ es) c
 |o=>o
def agi:SO->Bool
 | .cells _ _=>true
 | .map _ _=>true
 |_=>false
def fnK (E:Env) (rec:Job->Out) (f:Fn) (aa:List SV) (h:Hs):Out:=
 match f with
 | .func k=> @Option.rec SV (fun _=>Out) (wy E rec k (E.fn.get k) aa h) (fun v=>.res v h) (jn E k aa)
 |_=>.fail "callee"
def adK (x:SV):Env->(Job->Out)->List SV->Hs->Out:= @SV.rec (fun _=>Env->(Job->Out)->List SV->Hs->Out) (fun _=>PUnit) (fun _=>fun _ _ _ _=>.fail "callee value") (fun _ _=>fun _ _ _ _=>.fail "callee value") (fun _=>fun _ _ _ _=>.fail "callee value") (fun _ _=>fun _ _ _ _=>.fail "callee value") (fun _ _ _ _=>.fail "callee value") (fun _ _ _ _=>fun _ _ _ _=>.fail "callee value") (fun _ _ _ _=>.fail "callee value") (fun _ _ _ _=>.fail "callee value") (fun _=>fun _ _ _ _=>.fail "callee value") (fun _ _ _ _=>.fail "callee value") (fun f first dr _ _=>fun E rec aa h=>fnK E rec f (first++aa++dr) h) (fun l=>fun _ rec aa h=>H7 rec l (h.hp.get l) aa h) (fun _ _ _ _=>.fail "callee value") (fun _ _ _=>fun _ _ _ _=>.fail "callee value") (fun _ _ _ _=>.fail "callee value") (fun _ _=>fun _ _ _ _=>.fail "callee value") (fun _ _=>fun _ _ _ _=>.fail "callee value") (fun _ _ _ _=>.fail "callee value") PUnit.unit (fun _ _ _ _=>PUnit.unit) x
def step (E:Env) (rec:Job->Out) (j:Job):Out:=
 @Job.rec (fun _=>Out) (fun nt c tm mk h=>adH c E rec nt tm mk h) (fun nt all l tm mk h=>N3 E rec nt all l tm mk h) (fun nt W all base i M prev l tm h=>Ip E rec nt W all base i M prev l tm h) (fun f aa h=>adK f E rec aa h) j
def run (E:Env) (n:Nat):Job->Out:= @Nat.rec (fun _=>Job->Out) (fun _=>.fail "fuel") (fun _ ih j=>step E ih j) n
end Go.Sim
namespace Go.Sim
open Go.RowKit
section
theorem aA {α:Type} (b:Bool) (x y:α):sel b x y=if b=true then x else y:=by cases b<;>rfl
theorem ar {α:Type} {b:Bool} {x:Option α} {r:α} (h:sel b x none=some r):b=true/\x=some r:=by
 cases b
 ·simp[sel] at h
 ·exact ⟨rfl,h⟩
theorem ae {α γ:Type} {x:Option α} {f:α->Option γ} {r:γ} (h:ai x f=some r):∃a,x=some a/\f a=some r:=by
 cases x with
 |none=>cases h
 |some a=>exact ⟨a,rfl,h⟩
theorem av {α β γ:Type} {x:Option α} {y:Option β} {f:α->β->Option γ} {r:γ} (h:aC x y f=some r):∃a b,x=some a/\y=some b/\f a b=some r:=by
 cases x with
 |none=>cases h
 |some a=>
  cases y with
  |none=>cases h
  |some b=>exact ⟨a,b,rfl,rfl,h⟩
theorem pH {α β δ γ:Type} {x:Option α} {y:Option β} {z:Option δ} {f:α->β->δ->Option γ} {r:γ} (h:pI x y z f=some r):∃a b c,x=some a/\y=some b/\z=some c/\f a b c=some r:=by
 obtain ⟨a,ha,h⟩:=ae h;obtain ⟨b,c,hb,hc,h⟩:=av h;exact ⟨a,b,c,ha,hb,hc,h⟩
theorem beq_iff (a b:Nat):Nat.beq a b=true↔a=b:=⟨Nat.eq_of_beq_eq_true,fun h=>by subst h;exact Nat.beq_refl a⟩
theorem beq_eq (a b:Nat):Nat.beq a b=decide (a=b):=by
 rw[Bool.eq_iff_iff,beq_iff];simp
theorem bj (a b:Nat):Nat.ble a b=true↔a<=b:=by rw[Nat.ble_eq]
theorem ble_eq (a b:Nat):Nat.ble a b=decide (a<=b):=by
 rw[Bool.eq_iff_iff,bj];simp
theorem Tr.get_nil {α:Type} (i:Nat):(Tr.nil:Tr α).get i=none:=rfl
theorem Tr.qP {α:Type} (l r:Tr α) (v:Option α) (i:Nat):(Tr.node l v r).get i=if i=0 then v else if i % 2=1 then l.get (i / 2) else r.get (i / 2-1):=by
 show sel (Nat.beq i 0) v (sel (Nat.beq (Nat.mod i 2) 1) (l.get (Nat.div i 2)) (r.get (Nat.sub (Nat.div i 2) 1)))=_;rw[aA,aA,beq_eq,beq_eq];simp only[decide_eq_true_eq];rfl
def Tr.left {α:Type}:Tr α->Tr α
 | .nil=>.nil
 | .node l _ _=>l
def Tr.right {α:Type}:Tr α->Tr α
 | .nil=>.nil
 | .node _ _ r=>r
def Tr.val {α:Type}:Tr α->Option α
 | .nil=>none
 | .node _ v _=>v
theorem Tr.wx {α:Type} (t:Tr α) (i:Nat):t.get i=if i=0 then t.val else if i % 2=1 then t.left.get (i / 2) else t.right.get (i / 2-1):=by
 cases t with
 |nil=>simp[Tr.val,Tr.left,Tr.right,Tr.get_nil]
 |node l v r=>rw[Tr.qP];rfl
theorem Tr.U2 {α:Type} (n:Nat) (t:Tr α) (i:Nat) (x:Option α):Tr.vH (n+1) t i x=
  if i=0 then .node t.left x t.right else if i % 2=1 then .node (Tr.vH n t.left (i / 2) x) t.val t.right else .node t.left t.val (Tr.vH n t.right (i / 2-1) x):=by
 have e:Tr.vH (n+1) t i x=sel (Nat.beq i 0) (Tr.node t.left x t.right) (sel (Nat.beq (Nat.mod i 2) 1) (.node (Tr.vH n t.left (Nat.div i 2) x) t.val t.right) (.node t.left t.val (Tr.vH n t.right (Nat.sub (Nat.div i 2) 1) x))):=by
  cases t<;>rfl
 rw[e,aA,aA,beq_eq,beq_eq];simp only[decide_eq_true_eq];rfl
theorem Tr.zV {α:Type}:∀(n:Nat) (t:Tr α) (i j:Nat) (x:Option α),i<n->(Tr.vH n t i x).get j=if j=i then x else t.get j
 |0,_,_,_,_,h=>by omega
 |n+1,t,i,j,x,h=>by
  rw[Tr.U2];by_cases h0:i=0
  ·subst h0;rw[if_pos rfl,Tr.qP];by_cases hj:j=0
   ·simp[hj]
   ·rw[if_neg hj,if_neg hj,Tr.wx t j,if_neg hj]
  ·rw[if_neg h0];by_cases h1:i % 2=1
   ·rw[if_pos h1,Tr.qP,Tr.wx t j];by_cases hj:j=0
    ·subst hj;rw[if_pos rfl,if_pos rfl,if_neg (by omega)]
    ·rw[if_neg hj,if_neg hj];by_cases hj1:j % 2=1
     ·rw[if_pos hj1,if_pos hj1,Tr.zV n _ _ _ _ (by omega)]
      by_cases e:j=i
      ·rw[if_pos e,if_pos (by omega)]
      ·rw[if_neg e,if_neg (by omega)]
     ·rw[if_neg hj1,if_neg hj1,if_neg (by omega)]
   ·rw[if_neg h1,Tr.qP,Tr.wx t j];by_cases hj:j=0
    ·subst hj;rw[if_pos rfl,if_pos rfl,if_neg (by omega)]
    ·rw[if_neg hj,if_neg hj];by_cases hj1:j % 2=1
     ·rw[if_pos hj1,if_pos hj1,if_neg (by omega)]
     ·rw[if_neg hj1,if_neg hj1,Tr.zV n _ _ _ _ (by omega)]
      by_cases e:j=i
      ·rw[if_pos e,if_pos (by omega)]
      ·rw[if_neg e,if_neg (by omega)]
theorem Tr.da {α:Type} (t:Tr α) (i j:Nat) (x:Option α):(t.set i x).get j=if j=i then x else t.get j:=Tr.zV (i+1) t i j x (by omega)
structure Gh where
 η:Nat->Int
 sz:TypeId->Nat
 ρ:Nat->Option (Nat×Nat)
 lim:Nat->Nat
 et:Nat->TypeId
 wb:Nat->Option Obj
structure Gh.le (g g':Gh):Prop where
 η:g'.η=g.η
 sz:g'.sz=g.sz
 ρ:∀id p,g.ρ id=some p->g'.ρ id=some p
 lim:∀id p,g.ρ id=some p->g'.lim id=g.lim id
 et:∀id p,g.ρ id=some p->g'.et id=g.et id
 wb:g'.wb=g.wb
theorem Gh.le.refl (g:Gh):g.le g:=⟨rfl,rfl,fun _ _ h=>h,fun _ _ _=>rfl,fun _ _ _=>rfl,rfl⟩
theorem Gh.le.trans {a b c:Gh} (h:a.le b) (k:b.le c):a.le c:=
 ⟨k.η.trans h.η,k.sz.trans h.sz,fun id p q=>k.ρ id p (h.ρ id p q),fun id p q=>(k.lim id p (h.ρ id p q)).trans (h.lim id p q),fun id p q=>(k.et id p (h.ρ id p q)).trans (h.et id p q),k.wb.trans h.wb⟩
mutual
inductive VR (g:Gh):Value->SV->Prop
 |bool (b):VR g (.bool b) (.bool b)
 |int (k e) {n:Int} (h:n=e.ev g.η):VR g (.int k n) (.int k e)
 |str (s):VR g (.string s) (.str s)
 |ptr {id off b o} (h:g.ρ id=some (b,o)):VR g (.pointer (some ⟨b,o+off,none⟩)) (.ptr id off)
 |cX:VR g (.pointer none) .cX
 |sl {id off n b o c} {cap:Cp} (h:g.ρ id=some (b,o)) (hn:n<=c) (hc:∀m,cap= .k m->c=m) (hl:∀e,cap= .u e->g.et id=e/\off+c*g.sz e<=g.lim id):VR g (.slice (some ⟨b,o+off,none⟩) n c) (.sl id off n cap)
 |sle {a c}:VR g (.slice a 0 c) .sle
 |aT:VR g (.slice none 0 0) .aT
 |mp {id b o} (h:g.ρ id=some (b,o)):VR g (.map (some b)) (.mp id)
 |cY:VR g (.map none) .cY
 |fn {f:FuncId} {first dr:Array Value} {fs cs:List SV} (h1:VRs g first.toList fs) (h2:VRs g dr.toList cs):VR g (.func (.func f) first dr) (.fn (.func f) fs cs)
 |yld {id b o} (h:g.ρ id=some (b,o)):VR g (.func (.yield b) #[] #[]) (.yld id)
 |dy:VR g .nilFunc .dy
 |ifc {t v x} (h:VR g v x):VR g (.iface t v) (.ifc t x)
 |cN:VR g .nilIface .cN
 |agg {vs:Array Value} {cs} (h:VCs g vs.toList cs):VR g (.agg vs) (.agg cs)
 |tup {vs:Array Value} {cs} (h:VRs g vs.toList cs):VR g (.tuple vs) (.tup cs)
 |undef (v):VR g v .undef
inductive VRs (g:Gh):List Value->List SV->Prop
 |nil:VRs g [] []
 |cons {v x vs xs} (h:VR g v x) (ht:VRs g vs xs):VRs g (v::vs) (x::xs)
inductive VCs (g:Gh):List Value->List SV->Prop
 |nil:VCs g [] []
 |cons {v x vs xs} (h1:v.oneCell'=true) (h:VR g v x) (ht:VCs g vs xs):VCs g (v::vs) (x::xs)
end
mutual
theorem VR.mono {g g':Gh} (hle:g.le g'):∀{v x},VR g v x->VR g' v x
 |_,_,.bool b=>.bool b
 |_,_,.int k e h=>.int k e (by rw[hle.η];exact h)
 |_,_,.str s=>.str s
 |_,_,.ptr h=>.ptr (hle.ρ _ _ h)
 |_,_,.cX=>.cX
 |_,_,.sl h hn hc hl=>.sl (hle.ρ _ _ h) hn hc (fun e he=>by rw[hle.sz,hle.et _ _ h,hle.lim _ _ h];exact hl e he)
 |_,_,.sle=>.sle
 |_,_,.aT=>.aT
 |_,_,.mp h=>.mp (hle.ρ _ _ h)
 |_,_,.cY=>.cY
 |_,_,.fn h1 h2=>.fn (h1.mono hle) (h2.mono hle)
 |_,_,.yld h=>.yld (hle.ρ _ _ h)
 |_,_,.dy=>.dy
 |_,_,.ifc h=>.ifc (h.mono hle)
 |_,_,.cN=>.cN
 |_,_,.agg h=>.agg (h.mono hle)
 |_,_,.tup h=>.tup (h.mono hle)
 |_,_,.undef v=>.undef v
theorem VRs.mono {g g':Gh} (hle:g.le g'):∀{v x},VRs g v x->VRs g' v x
 |_,_,.nil=>.nil
 |_,_,.cons h ht=>.cons (h.mono hle) (ht.mono hle)
theorem VCs.mono {g g':Gh} (hle:g.le g'):∀{v x},VCs g v x->VCs g' v x
 |_,_,.nil=>.nil
 |_,_,.cons h1 h ht=>.cons h1 (h.mono hle) (ht.mono hle)
end
variable {g:Gh} {P:Program}
theorem VCs.length:∀{vs:List Value} {cs:List SV},VCs g vs cs->vs.length=cs.length
 |_,_,.nil=>rfl
 |_,_,.cons _ _ ht=>by simp[ht.length]
theorem VRs.length:∀{vs:List Value} {cs:List SV},VRs g vs cs->vs.length=cs.length
 |_,_,.nil=>rfl
 |_,_,.cons _ ht=>by simp[ht.length]
theorem VCs.get:∀{vs:List Value} {cs:List SV},VCs g vs cs->∀{j:Nat} {x:SV},cs[j]? =some x->∃v,vs[j]? =some v/\v.oneCell'=true/\VR g v x
 |_,_,.nil,_,_,h=>by simp at h
 |_,_,.cons h1 hd ht,j,x,h=>by
  cases j with
  |zero=>simp at h;subst h;exact ⟨_,rfl,h1,hd⟩
  |succ j=>simp at h;obtain ⟨v,a,b,c⟩:=ht.get h;exact ⟨v,by simpa using a,b,c⟩
theorem VRs.get:∀{vs:List Value} {cs:List SV},VRs g vs cs->∀{j:Nat} {x:SV},cs[j]? =some x->∃v,vs[j]? =some v/\VR g v x
 |_,_,.nil,_,_,h=>by simp at h
 |_,_,.cons hd ht,j,x,h=>by
  cases j with
  |zero=>simp at h;subst h;exact ⟨_,rfl,hd⟩
  |succ j=>simp at h;obtain ⟨v,a,c⟩:=ht.get h;exact ⟨v,by simpa using a,c⟩
theorem VCs.append:∀{vs us:List Value} {cs ds:List SV},VCs g vs cs->VCs g us ds->VCs g (vs++us) (cs++ds)
 |_,_,_,_,.nil,k=>k
 |_,_,_,_,.cons h1 hd ht,k=>.cons h1 hd (ht.append k)
theorem VRs.append:∀{vs us:List Value} {cs ds:List SV},VRs g vs cs->VRs g us ds->VRs g (vs++us) (cs++ds)
 |_,_,_,_,.nil,k=>k
 |_,_,_,_,.cons hd ht,k=>.cons hd (ht.append k)
theorem VCs.drop:∀{vs:List Value} {cs:List SV} (n:Nat),VCs g vs cs->VCs g (vs.drop n) (cs.drop n)
 |_,_,0,h=>h
 |_,_,n+1,.nil=>by simpa using .nil
 |_,_,n+1,.cons _ _ ht=>by simpa using ht.drop n
theorem VCs.take:∀{vs:List Value} {cs:List SV} (n:Nat),VCs g vs cs->VCs g (vs.take n) (cs.take n)
 |_,_,0,_=>by simpa using .nil
 |_,_,n+1,.nil=>by simpa using .nil
 |_,_,n+1,.cons h1 hd ht=>by simpa using .cons h1 hd (ht.take n)
theorem VCs.one:∀{vs:List Value} {cs:List SV},VCs g vs cs->∀v∈vs,v.oneCell'=true
 |_,_,.nil,v,hv=>by simp at hv
 |_,_,.cons h1 _ ht,v,hv=>by
  rcases List.mem_cons.1 hv with rfl|hv
  ·exact h1
  ·exact ht.one v hv
theorem VCs.mk:∀{vs:List Value} {cs:List SV},vs.length=cs.length->(∀(j:Nat) (v:Value) (x:SV),vs[j]? =some v->cs[j]? =some x->v.oneCell'=true/\VR g v x)->VCs g vs cs
 | [],[],_,_=>.nil
 |v::vs,x::xs,hl,h=>by
  obtain ⟨a,b⟩:=h 0 v x rfl rfl;exact .cons a b (VCs.mk (by simpa using hl) fun j v x hv hx=>h (j+1) v x (by simpa using hv) (by simpa using hx))
 | [],_::_,hl,_=>by simp at hl
 |_::_,[],hl,_=>by simp at hl
structure Cells (g:Gh) (w:World) (id b o:Nat) (e:TypeId) (cs:List SV):Prop where
 mem:∃cur:Array Value,w.heap[b]? =some (.cells cur e (0,0))/\o+g.lim id<=cur.size/\∃vs,VCs g vs cs/\∀j v,vs[j]? =some v->cur[o+j]? =some v
 et:g.et id=e
def SD (g:Gh) (m:MapEntry) (x:SV×SV×Nat):Prop:=VR g m.key x.1/\VR g m.val x.2.1/\m.born=x.2.2
inductive di (g:Gh):List MapEntry->List (SV×SV×Nat)->Prop
 |nil:di g [] []
 |cons {m x ms xs} (h:SD g m x) (ht:di g ms xs):di g (m::ms) (x::xs)
theorem di.mono {g g':Gh} (hle:g.le g'):∀{ms:List MapEntry} {xs:List (SV×SV×Nat)},di g ms xs->di g' ms xs
 |_,_,.nil=>.nil
 |_,_,.cons h ht=>.cons ⟨h.1.mono hle,h.2.1.mono hle,h.2.2⟩ (ht.mono hle)
structure FR (g:Gh) (nt:Nat) (tm:Tf) (tmps:Array Value):Prop where
 sz:tmps.size=nt
 tm:∀t x,tm t=some x->VR g (tmps.getD t undef) x
theorem FR.mono {g g':Gh} (hle:g.le g') {nt:Nat} {tm:Tf} {tmps:Array Value} (h:FR g nt tm tmps):FR g' nt tm tmps:=⟨h.sz,fun t x hx=>(h.tm t x hx).mono hle⟩
def OR (g:Gh) (w:World) (id b o:Nat):SO->Prop
 | .cells e cs=>Cells g w id b o e cs
 | .map es c=>∃ms,w.heap[b]? =some (.map ms c)/\di g ms.toList es
 | .iN s pos=>o=0/\w.heap[b]? =some (.stringIter s pos)
 | .mapIter mp since seen last=>o=0/\∃(bm:Option Nat) (sa:Array Nat),w.heap[b]? =some (.mapIter bm since sa last)/\sa.toList=seen/\(match mp with|none=>bm=none|some m=>∃x y,bm=some x/\g.ρ m=some (x,y))
 | .loop nt tm ps aa bo st pe dd=>codeOk aa=true/\codeOk bo=true/\∃l:Loop,w.heap[b]? =some (.loop l)/\l.state=st/\l.pending=pe/\l.params.toList=ps/\l.assign=aa/\l.body=bo/\FR g nt tm.get l.tmps/\∃o',g.ρ dd=some (l.defers,o')
 | .dfr=>w.heap[b]? =some (.deferred (some []))
 | .ro cs=>∃(cur:Array Value) (e:TypeId) (fz:Nat×Nat),w.heap[b]? =some (.cells cur e fz)/\g.wb b=some (.cells cur e fz)/\∀j x,cs[j]? =some x->∃v,cur[o+j]? =some v/\(isU x=false->v.oneCell'=true/\VR g v x)
theorem Cells.mono {g g':Gh} (hle:g.le g') {w w':World} {id b o:Nat} {e:TypeId} {cs:List SV} (hρ:g.ρ id=some (b,o)) (h:Cells g w id b o e cs) (hw:w'.heap[b]? =w.heap[b]?):Cells g' w' id b o e cs:=by
 obtain ⟨⟨cur,h1,h0,vs,h2,h3⟩,h4⟩:=h;exact ⟨⟨cur,hw.trans h1,by rw[hle.lim _ _ hρ];exact h0,vs,h2.mono hle,h3⟩,(hle.et _ _ hρ).trans h4⟩
theorem OR.mono {g g':Gh} (hle:g.le g') {w w':World} {id b o:Nat} {x:SO} (hρ:g.ρ id=some (b,o)) (h:OR g w id b o x) (hw:w'.heap[b]? =w.heap[b]?):OR g' w' id b o x:=by
 cases x with
 |cells e cs=>exact Cells.mono hle hρ h hw
 |map es c=>obtain ⟨ms,h1,h2⟩:=h;exact ⟨ms,hw.trans h1,h2.mono hle⟩
 |iN s pos=>exact ⟨h.1,hw.trans h.2⟩
 |mapIter mp since seen last=>
  obtain ⟨h0,bm,sa,h1,h2,h3⟩:=h;refine ⟨h0,bm,sa,hw.trans h1,h2,?_⟩;cases mp with
  |none=>exact h3
  |some m=>obtain ⟨x,y,e1,e2⟩:=h3;exact ⟨x,y,e1,hle.ρ _ _ e2⟩
 |loop nt tm ps aa bo st pe dd=>
  obtain ⟨k1,k2,l,h1,h2,h3,h4,h5,h6,h7,o',h8⟩:=h;exact ⟨k1,k2,l,hw.trans h1,h2,h3,h4,h5,h6,h7.mono hle,o',hle.ρ _ _ h8⟩
 |dfr=>exact hw.trans h
 |ro cs=>
  obtain ⟨cur,e,fz,h1,h0,h2⟩:=h;refine ⟨cur,e,fz,hw.trans h1,(congrFun hle.wb b).trans h0,fun j x hx=> ?_⟩
  obtain ⟨v,a,b⟩:=h2 j x hx;exact ⟨v,a,fun hu=>⟨(b hu).1,(b hu).2.mono hle⟩⟩
structure HR (g:Gh) (hp:Hf) (w:World):Prop where
 ob:∀id o,hp id=some o->∃b c,g.ρ id=some (b,c)/\b<w.heap.size/\OR g w id b c o
 inj:∀i j x y b c d,hp i=some x->hp j=some y->g.ρ i=some (b,c)->g.ρ j=some (b,d)->i=j
def So (g:Gh) (hp:Hf) (b:Nat):Prop:=∃id o c,hp id=some o/\g.ρ id=some (b,c)
structure Fr (g:Gh) (hp:Hf) (w:World) (g':Gh) (hp':Hf) (w':World):Prop where
 os:w'.os=w.os
 tape:w'.tape=w.tape
 output:w'.output=w.output
 size:w.heap.size<=w'.heap.size
 le:g.le g'
 old:∀b,b<w.heap.size->¬So g hp b->w'.heap[b]? =w.heap[b]?
 own:∀b,b<w.heap.size->So g' hp' b->So g hp b
theorem Fr.refl (g:Gh) (hp:Hf) (w:World):Fr g hp w g hp w:=⟨rfl,rfl,rfl,Nat.le_refl _,.refl _,fun _ _ _=>rfl,fun _ _ h=>h⟩
theorem Fr.trans {g g1 g2:Gh} {h h1 h2:Hf} {w w1 w2:World} (a:Fr g h w g1 h1 w1) (b:Fr g1 h1 w1 g2 h2 w2):Fr g h w g2 h2 w2:=
 ⟨b.os.trans a.os,b.tape.trans a.tape,b.output.trans a.output,Nat.le_trans a.size b.size,a.le.trans b.le,
  fun k hk hn=>(b.old k (Nat.lt_of_lt_of_le hk a.size) (fun hm=>hn (a.own k hk hm))).trans (a.old k hk hn),
  fun k hk hm=>a.own k hk (b.own k (Nat.lt_of_lt_of_le hk a.size) hm)⟩
end
theorem W6 {e:SI} {n:Nat} (h:Y7 e=some n):e= .lit (.ofNat n):=by
 unfold Y7 at h;split at h
 ·simp at h;subst h;rfl
 ·simp at h
theorem kS {x:SV} {n:Nat} (h:fu x=some n):∃k,x= .int k (.lit (.ofNat n)):=by
 cases x<;>first|(exact ⟨_,by rw[W6 h]⟩)|cases h
theorem lz {x:SV} {b:Bool} (h:iC x=some b):x= .bool b:=by cases x<;>cases h<;>rfl
theorem jR {x:SV} {p:IntKind×SI} (h:intOf x=some p):x= .int p.1 p.2:=by cases x<;>cases h<;>rfl
theorem fE {x:SV} {s:ByteArray} (h:strOf x=some s):x= .str s:=by cases x<;>cases h<;>rfl
theorem g5 {x:SV} {q:Nat×Nat} (h:lH x=some q):x= .ptr q.1 q.2:=by cases x<;>cases h<;>rfl
theorem pL {x:SV} {cs:List SV} (h:uY x=some cs):x= .agg cs:=by cases x<;>cases h<;>rfl
theorem PL {x:SV} {cs:List SV} (h:Av x=some cs):x= .tup cs:=by cases x<;>cases h<;>rfl
theorem Fe {x:SV} {i:Nat} (h:Y8 x=some i):x= .mp i:=by cases x<;>cases h<;>rfl
theorem U1 {x:SV} {q:Nat×Nat×Nat×Cp} (h:YG x=some q):x= .sl q.1 q.2.1 q.2.2.1 q.2.2.2:=by cases x<;>cases h<;>rfl
theorem rU {x:SV} {n:Nat} (h:oP x=some n):(∃i o c,x= .sl i o n c)\/(x= .aT/\n=0)\/(x= .sle/\n=0):=by
 cases x<;>first|(cases h;exact .inl ⟨_,_,_,rfl⟩)|(cases h;exact .inr (.inl ⟨rfl,rfl⟩))|(cases h;exact .inr (.inr ⟨rfl,rfl⟩))|cases h
theorem Qw {x y:SV} (h:Bb x=some y):y=x/\((∃i o,x= .ptr i o)\/(∃f a c,x= .fn f a c)\/∃l,x= .yld l):=by
 cases x<;>first|(cases h;exact ⟨rfl,.inl ⟨_,_,rfl⟩⟩)|(cases h;exact ⟨rfl,.inr (.inl ⟨_,_,_,rfl⟩)⟩)|(cases h;exact ⟨rfl,.inr (.inr ⟨_,rfl⟩)⟩)|cases h
theorem j7 {d:UD} {e:TypeId} (h:jw d=some e):d= .slice e:=by cases d<;>cases h<;>rfl
theorem vy {d:UD} {fs:List FL} (h:m8 d=some fs):d= .struct fs:=by cases d<;>cases h<;>rfl
theorem vW {d:UD} {q:TypeId×TypeId} (h:qB d=some q):d= .map q.1 q.2:=by cases d<;>cases h<;>rfl
theorem NN {d:UD} (h:ow d=true):d= .string:=by cases d<;>cases h<;>rfl
theorem KM {d:UD} (h:xD d=true):d= .bool:=by cases d<;>cases h<;>rfl
theorem kb {o:Option SO} {p:TypeId×List SV} (h:j4 o=some p):o=some (.cells p.1 p.2):=by
 unfold j4 at h;split at h
 ·simp at h;subst h;rfl
 ·simp at h
theorem oo {o:Option SO} {p:List (SV×SV×Nat)×Nat} (h:jy o=some p):o=some (.map p.1 p.2):=by
 unfold jy at h;split at h
 ·simp at h;subst h;rfl
 ·simp at h
theorem Br {o:Option SO} {p:ByteArray×Nat} (h:rV o=some p):o=some (.iN p.1 p.2):=by
 unfold rV at h;split at h
 ·simp at h;subst h;rfl
 ·simp at h
theorem eL {a b:IntKind} (h:cn a b=true):a=b:=by
 cases a<;>cases b<;>first|rfl|(simp[cn] at h)
theorem QI (a:IntKind):cn a a=true:=by cases a<;>rfl
theorem nr (a b:Int):uq a b=decide (a=b):=by
 cases a<;>cases b<;>simp[uq,beq_eq]
 rename_i m n;exact ⟨fun h=>by rw[h],fun h=>Int.ofNat.inj h⟩
theorem l5 (a b:Int):mJ a b=decide (a<b):=by
 cases a<;>cases b<;>simp only[mJ,ble_eq,decide_eq_decide]
 ·rename_i m n;simp only[Int.ofNat_eq_natCast];omega
 ·rename_i m n;simp only[eq_comm (a:=false),decide_eq_false_iff_not,Int.ofNat_eq_natCast];omega
 ·rename_i m n;simp only[eq_comm (a:=true),decide_eq_true_eq,Int.ofNat_eq_natCast];omega
 ·rename_i m n;omega
theorem SI.oD (η:Nat->Int):∀{a b:SI},a.eqb b=true->a.ev η=b.ev η
 | .lit a,.lit b,h=>by simpa[SI.eqb,nr,SI.ev] using h
 | .var a,.var b,h=>by have:=(beq_iff a b).1 h;subst this;rfl
 | .add k a b,.add k' a' b',h=>by
  simp only[SI.eqb,Bool.and_eq_true] at h;obtain ⟨h1,h2,h3⟩:=h;rw[SI.ev,SI.ev,eL h1,SI.oD η h2,SI.oD η h3]
 | .sub k a b,.sub k' a' b',h=>by
  simp only[SI.eqb,Bool.and_eq_true] at h;obtain ⟨h1,h2,h3⟩:=h;rw[SI.ev,SI.ev,eL h1,SI.oD η h2,SI.oD η h3]
 | .conv k a,.conv k' a',h=>by
  simp only[SI.eqb,Bool.and_eq_true] at h;obtain ⟨h1,h2⟩:=h;rw[SI.ev,SI.ev,eL h1,SI.oD η h2]
 | .lit _,.var _,h| .lit _,.add _ _ _,h| .lit _,.sub _ _ _,h| .lit _,.conv _ _,h=>by simp[SI.eqb] at h
 | .var _,.lit _,h| .var _,.add _ _ _,h| .var _,.sub _ _ _,h| .var _,.conv _ _,h=>by simp[SI.eqb] at h
 | .add _ _ _,.lit _,h| .add _ _ _,.var _,h| .add _ _ _,.sub _ _ _,h| .add _ _ _,.conv _ _,h=>by simp[SI.eqb] at h
 | .sub _ _ _,.lit _,h| .sub _ _ _,.var _,h| .sub _ _ _,.add _ _ _,h| .sub _ _ _,.conv _ _,h=>by simp[SI.eqb] at h
 | .conv _ _,.lit _,h| .conv _ _,.var _,h| .conv _ _,.add _ _ _,h| .conv _ _,.sub _ _ _,h=>by simp[SI.eqb] at h
def ry (P:Program) (t:TypeId):UD->Prop
 | .bool=>P.underlying t=some .bool
 | .int k=>P.underlying t=some (.int k)
 | .string=>P.underlying t=some .string
 | .pointer=>∃e,P.underlying t=some (.pointer e)
 | .slice e=>P.underlying t=some (.slice e)
 | .array n e=>P.underlying t=some (.array n e)
 | .map k e=>P.underlying t=some (.map k e)
 | .struct fs=>∃a:Array Field,P.underlying t=some (.struct a)/\a.toList.map (fun f=>FL.mk f.type f.offset (decide (f.name≠ "_")))=fs/\∀f∈a.toList,(P.info? f.type).isSome=true
 | .func=>∃a b c,P.underlying t=some (.func a b c)
 | .interface=>∃ms,P.underlying t=some (.interface ms)
 | .other=>False
def L8 (agg:Bool) (z:Value) (cs:List SV):Prop:=
 (∀g,VCs g z.cells.toList cs)/\(agg=true->∃a,z= .agg a)/\(agg=false->z.oneCell'=true)
structure rp (P:Program) (t:TypeId) (i:TI):Prop where
 desc:ry P t i.desc
 info:∃f z,P.info? t=some f/\f.size=i.size/\f.bytes=i.bytes/\f.comparable=i.comparable/\f.zero=some z/\L8 (eU i.desc) z i.zero/\(eU i.desc=true->i.zero.length=i.size)
structure bC (E:Env) (g:Gh):Prop where
 ty:∀t i,E.ty.get t=some i->rp E.P t i
 fn:∀f x,E.fn.get f=some x->E.P.funcs[f]? =some x
 lt:∀a b r,(a,b,r)∈E.lt->decide (a.ev g.η<b.ev g.η)=r
 eq:∀a b r,(a,b,r)∈E.eq->decide (a.ev g.η=b.ev g.η)=r
 mix:E.P.follows .mixedOrders=true
 sz:∀t,g.sz t=E.P.cellsOf t
theorem bC.mono {E:Env} {g g':Gh} (h:bC E g) (hle:g.le g'):bC E g':=
 ⟨h.ty,h.fn,fun a b r hm=>by rw[hle.η];exact h.lt a b r hm,fun a b r hm=>by rw[hle.η];exact h.eq a b r hm,h.mix,fun t=>by rw[hle.sz];exact h.sz t⟩
theorem bC.size {E:Env} {g:Gh} (h:bC E g) {t:TypeId} {i:TI} (hi:E.ty.get t=some i):g.sz t=i.size:=by
 obtain ⟨f,z,h1,h2,_⟩:=(h.ty t i hi).info;rw[h.sz,Program.cellsOf,h1];simpa using h2
theorem zM {a b:SI} {η:Nat->Int} {Q:Int->Int->Bool->Prop}:∀{l:List (SI×SI×Bool)} {r:Bool},look a b l=some r->(∀x y r,(x,y,r)∈l->Q (x.ev η) (y.ev η) r)->Q (a.ev η) (b.ev η) r
 | [],_,h,_=>by simp[look] at h
 |(x,y,r')::l,r,h,hq=>by
  unfold look at h;rw[aA] at h;split at h
  ·rename_i hc;simp only[Bool.and_eq_true] at hc;simp at h;subst h;rw[<-SI.oD η hc.1,<-SI.oD η hc.2];exact hq x y r' (by simp)
  ·exact zM h fun x y r hm=>hq x y r (by simp[hm])
theorem np {E:Env} {g:Gh} (hE:bC E g) {a b:SI} {r:Bool} (h:ltI E a b=some r):decide (a.ev g.η<b.ev g.η)=r:=by
 unfold ltI at h;split at h
 ·simp at h;subst h;rw[l5];rfl
 ·exact zM (Q:=fun x y r=>decide (x<y)=r) h hE.lt
theorem z9 {E:Env} {g:Gh} (hE:bC E g) {a b:SI} {r:Bool} (h:eqI E a b=some r):decide (a.ev g.η=b.ev g.η)=r:=by
 unfold eqI at h;split at h
 ·simp at h;subst h;rw[nr];rfl
 ·unfold eqS at h;rw[aA] at h;split at h
  ·rename_i hc;simp at h;subst h;rw[SI.oD g.η hc];simp
  ·exact zM (Q:=fun x y r=>decide (x=y)=r) h hE.eq
theorem B0:∀(a b:List UInt8),j5 a b=decide (a=b)
 | [],[]=>by simp[j5]
 | [],_::_=>by simp[j5]
 |_::_,[]=>by simp[j5]
 |a::l,b::m=>by
  rw[j5,B0 l m,beq_eq,Bool.eq_iff_iff];simp only[Bool.and_eq_true,decide_eq_true_eq,List.cons.injEq];rw[<-UInt8.toNat_inj]
theorem mo (a b:ByteArray):qk a b=decide (a=b):=by
 unfold qk;rw[B0,decide_eq_decide];constructor
 ·intro h;cases a with|mk a=>cases b with|mk b=>simp at h;simp[h]
 ·intro h;rw[h]
theorem qo {α:Type} {P:Program}:∀{s:Sem α} {a:α},cG P s=some a->∀w,s.run P w= .ok a w
 | .pure a,_,h,w=>by simp[cG] at h;subst h;rfl
 | .program k,a,h,w=>qo (s:=k P) h w
 | .load ..,_,h,_| .store ..,_,h,_| .new ..,_,h,_| .shape ..,_,h,_| .freeze ..,_,h,_| .frozen ..,_,h,_| .getObj ..,_,h,_| .setObj ..,_,h,_| .choose ..,_,h,_| .sys ..,_,h,_| .mark ..,_,h,_| .halt _,_,h,_=>by simp[cG] at h
mutual
theorem mU (g:Gh):∀(v:Value),VR g v (kT v)
 | .bool b=>.bool b
 | .int k n=>.int k _ rfl
 | .string s=>.str s
 | .pointer none=>.cX
 | .pointer (some _)=>.undef _
 | .slice none 0 0=>.aT
 | .slice none 0 (_+1)=>.undef _
 | .slice none (_+1) _=>.undef _
 | .slice (some _) _ _=>.undef _
 | .map none=>.cY
 | .map (some _)=>.undef _
 | .nilFunc=>.dy
 | .nilIface=>.cN
 | .agg ⟨cs⟩=>by
  unfold kT;rw[aA];split
  ·rename_i hc;refine .agg ?_;have hr:=sR g cs;refine VCs.mk hr.length fun j v x hv hx=> ?_
   obtain ⟨u,hu,hd⟩:=hr.get hx;have hv:cs[j]? =some v:=hv;rw[hv] at hu;obtain rfl:v=u:=by simpa using hu
   exact ⟨List.all_eq_true.1 hc v (List.mem_of_getElem? hv),hd⟩
  ·exact .undef _
 | .tuple ⟨cs⟩=>.tup (sR g cs)
 | .float _ _| .complex _ _ _| .chan _| .func _ _ _| .iface _ _=>.undef _
theorem sR (g:Gh):∀(vs:List Value),VRs g vs (iA vs)
 | []=>.nil
 |v::vs=>.cons (mU g v) (sR g vs)
end
section
variable {E:Env} {g:Gh} {w:World}
theorem o9 {P:Program} {t:TypeId} {i:TI} (h:rp P t i) (w:World):(isAgg t).run P w= .ok (eU i.desc) w:=by
 have hd:=h.desc;generalize i.desc=d at hd;cases d<;>simp only[ry] at hd
 case pointer=>obtain ⟨e,he⟩:=hd;simp only[isAgg,Sem.run_bind,run_underlying he,Result.andThen_ok];rfl
 case struct=>obtain ⟨e,he,_⟩:=hd;simp only[isAgg,Sem.run_bind,run_underlying he,Result.andThen_ok];rfl
 case func=>obtain ⟨_,_,_,he⟩:=hd;simp only[isAgg,Sem.run_bind,run_underlying he,Result.andThen_ok];rfl
 case interface=>obtain ⟨e,he⟩:=hd;simp only[isAgg,Sem.run_bind,run_underlying he,Result.andThen_ok];rfl
 all_goals (simp only[isAgg,Sem.run_bind,run_underlying hd,Result.andThen_ok];rfl)
theorem gQ {P:Program} {t:TypeId} {i:TI} (h:rp P t i) (w:World):(sizeOf t).run P w= .ok i.size w:=by
 obtain ⟨f,z,h1,h2,_⟩:=h.info;simp[sizeOf,typeInfo,h1,h2]
theorem zr {P:Program} {t:TypeId} {i:TI} (h:rp P t i):∃z,(∀w,(zeroValue t).run P w= .ok z w)/\L8 (eU i.desc) z i.zero/\(eU i.desc=true->i.zero.length=i.size):=by
 obtain ⟨f,z,h1,_,_,_,h5,h6⟩:=h.info;exact ⟨z,fun w=>by simp[zeroValue,typeInfo,h1,h5],h6⟩
theorem pg {P:Program} {t:TypeId} {i:TI} (hi:rp P t i) {cs:List SV} {off:Nat} {x:SV} {vs:Array Value} (h:cP i cs off=some x) (hc:VCs g vs.toList cs) (w:World):
  ∃v,(part t vs off).run P w= .ok v w/\VR g v x:=by
 unfold cP at h;rw[aA] at h;split at h
 ·rename_i ha;obtain ⟨hl,h⟩:=ar h;simp at h;subst h;refine ⟨.agg (vs.extract off (off+i.size)),?_,.agg ?_⟩
  ·simp only[part,Sem.run_bind,o9 hi,Result.andThen_ok,ha,if_true,gQ hi,Sem.run_pure]
  ·have:(vs.extract off (off+i.size)).toList=(vs.toList.drop off).take i.size:=by simp[List.extract_eq_take_drop]
   rw[this];exact (hc.drop off).take _
 ·rename_i ha;obtain ⟨v,hv,_,hd⟩:=hc.get h;refine ⟨v,?_,hd⟩;have hv':vs[off]? =some v:=by simpa using hv
  have ha:eU i.desc=false:=by simpa using ha
  simp only[part,Sem.run_bind,o9 hi,Result.andThen_ok,ha,Bool.false_eq_true,if_false,hv',Sem.run_pure]
theorem A2 {i:TI} {z:Value} (hz:L8 (eU i.desc) z i.zero) (hl:eU i.desc=true->i.zero.length=i.size) {x:SV} (h:cP i i.zero 0=some x):VR g z x:=by
 unfold cP at h;rw[aA] at h;obtain ⟨h1,h2,h3⟩:=hz;split at h
 ·rename_i ha;obtain ⟨_,h⟩:=ar h;simp at h;subst h;obtain ⟨a,rfl⟩:=h2 ha;rw[<-hl ha,List.take_length];exact .agg (h1 g)
 ·rename_i ha;have ho:=h3 (by simpa using ha)
  obtain ⟨v,hv,_,hd⟩:=(h1 g).get h;have:z.cells= #[z]:=by cases z<;>first|rfl|(simp[Value.oneCell'] at ho)
  rw[this] at hv;simp at hv;subst hv;exact hd
theorem VR.cF {v:Value} {x:SV} {cs:List SV} (h:VR g v x) (hx:x.cells=some cs):VCs g v.cells.toList cs:=by
 cases h with
 |agg h=>cases hx;exact h
 |tup h=>cases hx
 |undef v=>cases hx
 |bool b=>cases hx;exact .cons rfl (.bool b) .nil
 |int k e h=>cases hx;exact .cons rfl (.int k e h) .nil
 |str s=>cases hx;exact .cons rfl (.str s) .nil
 |ptr h=>cases hx;exact .cons rfl (.ptr h) .nil
 |cX=>cases hx;exact .cons rfl .cX .nil
 |sl a b c d=>cases hx;exact .cons rfl (.sl a b c d) .nil
 |sle=>cases hx;exact .cons rfl .sle .nil
 |aT=>cases hx;exact .cons rfl .aT .nil
 |mp h=>cases hx;exact .cons rfl (.mp h) .nil
 |cY=>cases hx;exact .cons rfl .cY .nil
 |fn a b=>cases hx;exact .cons rfl (.fn a b) .nil
 |yld h=>cases hx;exact .cons rfl (.yld h) .nil
 |dy=>cases hx;exact .cons rfl .dy .nil
 |ifc h=>cases hx;exact .cons rfl (.ifc h) .nil
 |cN=>cases hx;exact .cons rfl .cN .nil
theorem fL {nt:Nat} {tm:Tf} {a:Act} (h:FR g nt tm a.tmps) {x:Operand} {v:SV} (hv:aI tm x=some v):VR g (a.eval x) v:=by
 cases x with
 |tmp t=>exact h.tm t v hv
 |const u=>cases hv;exact mU g u
 |global _=>cases hv
 |func f=>cases hv;exact .fn .nil .nil
theorem ml {nt:Nat} {tm:Tf} {a:Act} (h:FR g nt tm a.tmps):∀{xs:List Operand} {vs:List SV},bE tm xs=some vs->VRs g (xs.map a.eval) vs
 | [],_,hv=>by cases hv;exact .nil
 |x::xs,vs,hv=>by
  obtain ⟨v,l,h1,h2,h3⟩:=av hv;cases h3;exact .cons (fL h h1) (ml h h2)
theorem L6 {r k:Option Bool} {b:Bool} (h:andThen r k=some b):(r=some true/\k=some b)\/(r=some false/\b=false):=by
 cases r with
 |none=>simp[andThen] at h
 |some c=>cases c<;>simp[andThen] at h<;>simp[h]
theorem FE {E:Env} (hE:bC E g) {eq:TypeId->SV->SV->Option Bool} {m:Nat} (heq:∀(t:TypeId) (x y:SV) (b:Bool),eq t x y=some b->∀(u v:Value),VR g u x->VR g v y->∀w,(Op.equalIn m t u v).run E.P w= .ok b w)
  {us vs:Array Value} {xs ys:List SV} (hx:VCs g us.toList xs) (hy:VCs g vs.toList ys):∀(l:List Field) (b:Bool),uO E eq xs ys (l.map fun f=>FL.mk f.type f.offset (decide (f.name≠ "_")))=some b->∀w,(Op.eqFields m us vs l).run E.P w= .ok b w
 | [],b,h,w=>by cases h;simp[Op.eqFields]
 |f::l,b,h,w=>by
  simp only[List.map_cons,uO] at h;obtain ⟨hn,h⟩:=ar h;obtain ⟨i,hi,h⟩:=ae h;obtain ⟨x,y,hpx,hpy,h⟩:=av h;have BE:f.name≠ "_" :=by simpa using hn
  obtain ⟨v1,hr1,hd1⟩:=pg (hE.ty _ _ hi) hpx hx w;obtain ⟨v2,hr2,hd2⟩:=pg (hE.ty _ _ hi) hpy hy w;rcases L6 h with ⟨h1,h2⟩|⟨h1,rfl⟩
  ·have he:=heq _ _ _ _ h1 v1 v2 hd1 hd2 w;simp only[Op.eqFields,if_pos BE,Sem.run_bind,hr1,hr2,he,Result.andThen_ok,Sem.run_ite,Sem.run_pure];simpa using FE hE heq hx hy l b h2 w
  ·have he:=heq _ _ _ _ h1 v1 v2 hd1 hd2 w;simp only[Op.eqFields,if_pos BE,Sem.run_bind,hr1,hr2,he,Result.andThen_ok,Sem.run_ite,Sem.run_pure];simp
theorem z7 {E:Env} (hE:bC E g):∀(n:Nat) (t:TypeId) (x y:SV) (b:Bool),eqT E n t x y=some b->∀(u v:Value),VR g u x->VR g v y->∀(d:Nat) (w:World),(Op.equalIn (n+d) t u v).run E.P w= .ok b w
 |0,_,_,_,_,h=>by cases h
 |n+1,t,x,y,b,h=>by
  intro u v hu hv d w;have hnd:n+1+d=(n+d)+1:=by omega
  rw[hnd];obtain ⟨i,hi,h⟩:=ae (show ai (E.ty.get t) (fun i=>eqD i.desc E (eqT E n) t x y)=some b from h)
  have hT:=hE.ty t i hi;have hd:=hT.desc;generalize i.desc=D at hd h;cases D with
  |bool=>
   obtain ⟨p,q,h1,h2,h3⟩:=av (show aC (iC x) (iC y) _=some b from h);obtain rfl:=lz h1;obtain rfl:=lz h2;cases hu;cases hv;cases h3;exact run_equalIn_bool' w _ t _ _ hd
  |int k=>
   obtain ⟨p,q,h1,h2,h3⟩:=av (show aC (intOf x) (intOf y) _=some b from h);obtain ⟨hk,h3⟩:=ar h3;obtain rfl:=jR h1;obtain rfl:=jR h2;have hk:=eL hk;have hb:=z9 hE h3;cases hu with|int _ _ e1=>cases hv with|int _ _ e2=>
   rw[hk,run_equalIn_int w _ t _ _ _ _ hd,e1,e2,<-hb];congr 1
  |string=>
   obtain ⟨p,q,h1,h2,h3⟩:=av (show aC (strOf x) (strOf y) _=some b from h);obtain rfl:=fE h1;obtain rfl:=fE h2;cases hu;cases hv;cases h3;rw[run_equalIn_string w _ t _ _ hd,mo];congr 1;rw[ByteArray.toList_eq,ByteArray.toList_eq,Bool.eq_iff_iff];simp only[beq_iff_eq,decide_eq_true_eq];constructor
   ·intro h;cases p with|mk a=>cases q with|mk c=>simp at h;simp[h]
   ·intro h;rw[h]
  |pointer=>
   obtain ⟨e,hd⟩:=hd;have h:GA x y=some b:=h;unfold GA at h;split at h<;>first|(cases hu;cases hv;cases h;simp[Op.equalIn,run_underlying hd];done)|(simp at h)
  |slice e=>
   have h:Ev x y=some b:=h;unfold Ev at h;split at h<;>first|(cases hu;cases hv;cases h;simp[Op.equalIn,run_underlying hd];done)|(simp at h)
  |array _ _=>cases h
  |map _ _=>
   have h:GB x y=some b:=h;unfold GB at h;split at h<;>first|(cases hu;cases hv;cases h;simp[Op.equalIn,run_underlying hd];done)|(simp at h)
  |struct fs=>
   obtain ⟨a,hd,hfs,_⟩:=hd;obtain ⟨p,h1,h2⟩:=ae (show ai (X2 x y) _=some b from h);obtain ⟨xs,ys,h3,h4,h5⟩:=av h1;cases h5;obtain rfl:=pL h3;obtain rfl:=pL h4;rw[aA] at h2;split at h2
   ·simp at h2
   ·rename_i hp;have hp:E.P.stoodInHeld t=false:=by simpa using hp
    cases hu with|agg hx=>cases hv with|agg hy=>
    have hf:E.P.fieldsOf t=a:=by simp[Program.fieldsOf,hd]
    rw[run_equalIn_struct w _ t _ _ (by rw[hf];exact hd) hp,hf]
    subst hfs;exact FE hE (fun t x y b h u v hu hv w=>z7 hE n t x y b h u v hu hv d w) hx hy a.toList b h2 w
  |func=>
   obtain ⟨_,_,_,hd⟩:=hd;have h:RF x y=some b:=h;unfold RF at h;split at h<;>first|(cases hu;cases hv;cases h;simp[Op.equalIn,run_underlying hd];done)|(simp at h)
  |interface=>
   obtain ⟨ms,hd⟩:=hd;have hq:GC E (eqT E n) x y=some b:=h;unfold GC at hq;split at hq
   ·cases hu;cases hv;cases hq;simp[Op.equalIn,run_underlying hd]
   ·cases hu;cases hv;cases hq;simp[Op.equalIn,run_underlying hd]
   ·cases hu;cases hv;cases hq;simp[Op.equalIn,run_underlying hd]
   ·rename_i t1 v1 t2 v2 _;cases hu with|ifc h1=>cases hv with|ifc h2=>
    rw[aA] at hq;split at hq
    ·rename_i ht;have ht:=(beq_iff _ _).1 ht;subst ht;obtain ⟨i1,hi1,hq⟩:=ae hq;obtain ⟨hc,hq⟩:=ar hq;obtain ⟨f,z,q1,_,_,q4,_⟩:=(hE.ty _ _ hi1).info;have:=z7 hE n t1 v1 v2 b hq _ _ h1 h2 d w;have hinf:(typeInfo t1).run E.P w= .ok f w:=by simp[typeInfo,q1]
     have hcc:f.comparable=true:=by rw[q4];exact hc
     simp[Op.equalIn,run_underlying hd,hinf,hcc,this]
    ·rename_i ht;have ht:t1≠t2:=fun e=>ht ((beq_iff _ _).2 e)
     obtain rfl:false=b:=by simpa using hq
     simp[Op.equalIn,run_underlying hd,ht]
   ·simp at hq
  |other=>exact hd.elim
end
section
variable {E:Env} {g:Gh} {w:World}
theorem afp (η:Nat->Int) (k:IntKind) (a b:SI):(L7 k a b).ev η=k.wrap (a.ev η+b.ev η):=by
 unfold L7;split<;>rfl
theorem N2 (η:Nat->Int) (k:IntKind) (a b:SI):(zn k a b).ev η=k.wrap (a.ev η - b.ev η):=by
 unfold zn;split<;>rfl
theorem aas (η:Nat->Int) (k:IntKind) (a:SI):(GJ k a).ev η=k.wrap (a.ev η):=by
 unfold GJ;split<;>rfl
theorem sP {P : Program} {op : BinOp} {t : TypeId} {x y : Operand} {a b : Value} (h : P.eqGuardType P.depth t = false \/ (∀ cs, a ≠ .agg cs)) (h2 : a ≠ .nilIface \/ (isConst x || isConst y) = true) (w : World) : (eqGuard op t x y a b).run P w = .ok () w := by
  cases a <;> first
    | (cases op <;> rfl)
    | (rcases h2 with h2 | h2
       · exact absurd rfl h2
       · cases b <;> first
           | (cases op <;> rfl)
           | (cases op <;> first | rfl | (cases x <;> cases y <;> first | rfl | (simp [isConst] at h2)))
       )
    | (rcases h with h | h
       · cases b <;> first | (cases op <;> rfl) | exact run_eqGuard_agg w op t x y _ _ h
       · exact absurd rfl (h _))
theorem ji {neg:Bool} {r:Option Bool} {z:SV} (h:eW neg r=some z):∃b,r=some b/\z= .bool (if neg then !b else b):=by
 obtain ⟨b,h1,h2⟩:=ae h;cases h2;exact ⟨b,h1,by cases neg<;>rfl⟩
theorem AW {r:Option Value} {z:SV} (h:gi r=some z):∃v,r=some v/\z=kT v:=by
 obtain ⟨v,h1,h2⟩:=ae h;cases h2;exact ⟨v,h1,rfl⟩
theorem XI (E:Env) (eq:TypeId->SV->SV->Option Bool) (t:TypeId) (d:UD) (y:SV):eqD d E eq t .undef y=none:=by
 cases d<;>rfl
theorem XH (E:Env) (n:Nat) (t:TypeId) (y:SV):eqT E n t .undef y=none:=by
 cases n with
 |zero=>rfl
 |succ n=>
  show ai (E.ty.get t) (fun i=>eqD i.desc E (eqT E n) t .undef y)=none
  cases E.ty.get t with
  |none=>rfl
  |some i=>exact XI _ _ _ _ _
theorem QB {op:BinOp} {t:TypeId} {k k':IntKind} {a b:SI} {z:SV} (h:lK E op t k k' a b=some z):∃m n v,a= .lit m/\b= .lit n/\cG E.P (binOp op t (.int k m) (.int k' n))=some v/\z=kT v:=by
 unfold lK at h;split at h
 ·rename_i m n;obtain ⟨v,h1,h2⟩:=AW h;exact ⟨m,n,v,rfl,rfl,h1,h2⟩
 ·simp at h
theorem Xv (x y:Int):(x==y)=decide (x=y):=by rw[Bool.eq_iff_iff];simp
theorem decLe (x y:Int):decide (x<=y)= !decide (y<x):=by rw[Bool.eq_iff_iff];simp
theorem VR.si {b c:Bool} (h:b=c):VR g (.bool b) (.bool c):=by subst h;exact .bool b
theorem Q5 (hE:bC E g) {op:BinOp} {t:TypeId} {k k':IntKind} {a b:SI} {z:SV} (h:Gp op E op t k k' a b=some z) (w:World):
  ∃r,(binOp op t (.int k (a.ev g.η)) (.int k' (b.ev g.η))).run E.P w= .ok r w/\VR g r z:=by
 have lit:lK E op t k k' a b=some z->∃r,(binOp op t (.int k (a.ev g.η)) (.int k' (b.ev g.η))).run E.P w= .ok r w/\VR g r z:=by
  intro h;obtain ⟨m,n,v,rfl,rfl,h1,rfl⟩:=QB h;exact ⟨v,qo h1 w,mU g v⟩
 cases op with
 |add=>
  obtain ⟨hk,h⟩:=ar (show sel (cn k k') (some (SV.int k (L7 k a b))) none=some z from h);cases h;obtain rfl:=eL hk;exact ⟨_,by simp[binOp,Op.intArith]<;>rfl,.int _ _ (afp _ _ _ _).symm⟩
 |sub=>
  obtain ⟨hk,h⟩:=ar (show sel (cn k k') (some (SV.int k (zn k a b))) none=some z from h);cases h;obtain rfl:=eL hk;exact ⟨_,by simp[binOp,Op.intArith]<;>rfl,.int _ _ (N2 _ _ _ _).symm⟩
 |eql=>
  obtain ⟨hk,h⟩:=ar (show sel (cn k k') (eW false (eqI E a b)) none=some z from h);obtain ⟨c,h1,rfl⟩:=ji h;obtain rfl:=eL hk;exact ⟨_,by simp[binOp,Op.intCmp]<;>rfl,VR.si (by have:=z9 hE h1;rw[Xv,this];rfl)⟩
 |neq=>
  obtain ⟨hk,h⟩:=ar (show sel (cn k k') (eW true (eqI E a b)) none=some z from h);obtain ⟨c,h1,rfl⟩:=ji h;obtain rfl:=eL hk;exact ⟨_,by simp[binOp,Op.intCmp]<;>rfl,VR.si (by have:=z9 hE h1;rw[<-this,<-Xv];rfl)⟩
 |lss=>
  obtain ⟨hk,h⟩:=ar (show sel (cn k k') (eW false (ltI E a b)) none=some z from h);obtain ⟨c,h1,rfl⟩:=ji h;obtain rfl:=eL hk;exact ⟨_,by simp[binOp,Op.intCmp]<;>rfl,VR.si (by have:=np hE h1;simpa using this)⟩
 |gtr=>
  obtain ⟨hk,h⟩:=ar (show sel (cn k k') (eW false (ltI E b a)) none=some z from h);obtain ⟨c,h1,rfl⟩:=ji h;obtain rfl:=eL hk;exact ⟨_,by simp[binOp,Op.intCmp]<;>rfl,VR.si (by have:=np hE h1;simpa using this)⟩
 |leq=>
  obtain ⟨hk,h⟩:=ar (show sel (cn k k') (eW true (ltI E b a)) none=some z from h);obtain ⟨c,h1,rfl⟩:=ji h;obtain rfl:=eL hk;exact ⟨_,by simp[binOp,Op.intCmp]<;>rfl,VR.si (by have:=np hE h1;rw[<-this];first|exact decLe _ _|(rw[<-decLe];rfl))⟩
 |geq=>
  obtain ⟨hk,h⟩:=ar (show sel (cn k k') (eW true (ltI E a b)) none=some z from h);obtain ⟨c,h1,rfl⟩:=ji h;obtain rfl:=eL hk;exact ⟨_,by simp[binOp,Op.intCmp]<;>rfl,VR.si (by have:=np hE h1;rw[<-this];first|exact decLe _ _|(rw[<-decLe];rfl))⟩
 |_=>exact lit h
theorem PS {op:BinOp} {t:TypeId} {a b:ByteArray} {z:SV} (h:PT op E op t a b=some z) (w:World):
  ∃r,(binOp op t (.string a) (.string b)).run E.P w= .ok r w/\VR g r z:=by
 have lit:gi (cG E.P (binOp op t (.string a) (.string b)))=some z->∃r,(binOp op t (.string a) (.string b)).run E.P w= .ok r w/\VR g r z:=by
  intro h;obtain ⟨v,h1,rfl⟩:=AW h;exact ⟨v,qo h1 w,mU g v⟩
 have hb:(a.toList==b.toList)=decide (a=b):=by
  rw[ByteArray.toList_eq,ByteArray.toList_eq,Bool.eq_iff_iff];simp only[beq_iff_eq,decide_eq_true_eq];constructor
  ·intro h;cases a with|mk a=>cases b with|mk c=>simp at h;simp[h]
  ·intro h;rw[h]
 cases op with
 |eql=>cases h;exact ⟨_,by simp[binOp,Op.stringOp]<;>rfl,VR.si (by rw[mo];simpa using hb)⟩
 |neq=>cases h;exact ⟨.bool (!(a.toList==b.toList)),by simp[binOp,Op.stringOp,bne],VR.si (by rw[mo,hb])⟩
 |_=>exact lit h
theorem F0 {P:Program} {t:TypeId} {a b:Value} (h1:∀k n,a≠ .int k n) (h2:∀k n,a≠ .float k n) (h3:∀k n m,a≠ .complex k n m) (h4:∀s,a≠ .string s) (w:World):
  (binOp .eql t a b).run P w=((Op.equalIn 10000 t a b).run P w).andThen fun r w'=>.ok (.bool r) w':=by
 cases a<;>first|exact absurd rfl (h1 _ _)|exact absurd rfl (h2 _ _)|exact absurd rfl (h3 _ _ _)|exact absurd rfl (h4 _)|(simp only[binOp];simp[Op.equal,Op.maxDepth])
theorem FZ {P:Program} {t:TypeId} {a b:Value} (h1:∀k n,a≠ .int k n) (h2:∀k n,a≠ .float k n) (h3:∀k n m,a≠ .complex k n m) (h4:∀s,a≠ .string s) (w:World):
  (binOp .neq t a b).run P w=((Op.equalIn 10000 t a b).run P w).andThen fun r w'=>.ok (.bool (!r)) w':=by
 cases a<;>first|exact absurd rfl (h1 _ _)|exact absurd rfl (h2 _ _)|exact absurd rfl (h3 _ _ _)|exact absurd rfl (h4 _)|(simp only[binOp];simp[Op.equal,Op.maxDepth])
theorem Ka (hE:bC E g) {op:BinOp} {t:TypeId} {ox oy:Operand} {x y z:SV} {u v:Value} (hx:∀k e,x≠ .int k e) (hs:∀s,x≠ .str s) (h:eR op E t ox oy x y=some z) (hu:VR g u x) (hv:VR g v y) (w:World):
  ∃r,(do eqGuard op t ox oy u v;binOp op t u v:Sem Value).run E.P w= .ok r w/\VR g r z:=by
 have key:∀b,uN E t ox oy x y=some b->(eqGuard op t ox oy u v).run E.P w= .ok () w/\(∀w,(binOp .eql t u v).run E.P w= .ok (.bool b) w)/\(∀w,(binOp .neq t u v).run E.P w= .ok (.bool (!b)) w):=by
  intro b he;obtain ⟨hok,he⟩:=ar he;have eJ:=fun w=>z7 hE 20 t x y b he u v hu hv 9980 w
  simp only[show 20+9980=10000 from rfl] at eJ;have hnu:x≠ .undef:=fun e=>by rw[e,XH] at he;simp at he
  have agG:(∀k n,u≠ .int k n)/\(∀k n,u≠ .float k n)/\(∀k n m,u≠ .complex k n m)/\(∀s,u≠ .string s)/\(E.P.eqGuardType E.P.depth t=false\/(∀cs,u≠ .agg cs))/\(u≠ .nilIface\/(isConst ox||isConst oy)=true):=by
   cases hu<;>first|exact absurd rfl (hx _ _)|exact absurd rfl (hs _)|exact absurd rfl hnu|(simp;done)|(simp[aab] at hok;simp[hok])
  obtain ⟨f1,f2,f3,f4,f5,f6⟩:=agG;refine ⟨sP f5 f6 w,fun w=> ?_,fun w=> ?_⟩
  ·rw[F0 f1 f2 f3 f4,eJ];rfl
  ·rw[FZ f1 f2 f3 f4,eJ];rfl
 cases op with
 |eql=>
  obtain ⟨b,h1,rfl⟩:=ji (show eW false (uN E t ox oy x y)=some z from h);obtain ⟨k1,k2,k3⟩:=key b h1;exact ⟨.bool b,by simp only[Sem.run_bind,k1,Result.andThen_ok,k2],.bool b⟩
 |neq=>
  obtain ⟨b,h1,rfl⟩:=ji (show eW true (uN E t ox oy x y)=some z from h);obtain ⟨k1,k2,k3⟩:=key b h1;exact ⟨.bool (!b),by simp only[Sem.run_bind,k1,Result.andThen_ok,k3],.bool (!b)⟩
 |_=>cases h
theorem XU (hE:bC E g) {op:BinOp} {t:TypeId} {ox oy:Operand} {x y z:SV} {u v:Value} (h:sS E op t ox oy x y=some z) (hu:VR g u x) (hv:VR g v y) (w:World):
  ∃r,(do eqGuard op t ox oy u v;binOp op t u v:Sem Value).run E.P w= .ok r w/\VR g r z:=by
 by_cases hx:∃k e,x= .int k e
 ·obtain ⟨k,a,rfl⟩:=hx;obtain ⟨p,h1,h2⟩:=ae (show ai (intOf y) (fun p=>Gp op E op t k p.1 a p.2)=some z from h)
  obtain rfl:=jR h1;cases hu with|int _ _ e1=>cases hv with|int _ _ e2=>
  subst e1;subst e2;obtain ⟨r,q1,q2⟩:=Q5 hE h2 w;exact ⟨r,by rw[Sem.run_bind,sP (P:=E.P) (a:=.int k (a.ev g.η)) (.inr (by simp)) (.inl (by simp))];exact q1,q2⟩
 ·by_cases hs:∃s,x= .str s
  ·obtain ⟨s,rfl⟩:=hs;obtain ⟨b,h1,h2⟩:=ae (show ai (strOf y) (fun b=>PT op E op t s b)=some z from h)
   obtain rfl:=fE h1;cases hu;cases hv;obtain ⟨r,q1,q2⟩:=PS (g:=g) h2 w;exact ⟨r,by rw[Sem.run_bind,sP (P:=E.P) (a:=.string s) (.inr (by simp)) (.inl (by simp))];exact q1,q2⟩
  ·have hx':∀k e,x≠ .int k e:=fun k e q=>hx ⟨k,e,q⟩
   have hs':∀s,x≠ .str s:=fun s q=>hs ⟨s,q⟩
   refine Ka hE hx' hs' ?_ hu hv w;cases x<;>first|exact absurd rfl (hx' _ _)|exact absurd rfl (hs' _)|exact h
theorem TC {P:Program} {t:TypeId} {i:TI} (h:rp P t i):∃d,P.underlying t=some d:=by
 have hd:=h.desc;generalize i.desc=d at hd;cases d<;>simp only[ry] at hd<;>first|exact ⟨_,hd⟩|exact ⟨_,hd.choose_spec⟩|exact ⟨_,hd.choose_spec.1⟩|exact ⟨_,hd.choose_spec.choose_spec.choose_spec⟩
theorem RW (hE:bC E g) {src dst:TypeId} {x z:SV} {u:Value} (h:BW E src dst x=some z) (hu:VR g u x) (w:World):∃r,(convert src dst u).run E.P w= .ok r w/\VR g r z:=by
 obtain ⟨i,j,hi,hj,h⟩:=av h;obtain ⟨d1,hd1⟩:=TC (hE.ty _ _ hi);have hd:=(hE.ty _ _ hj).desc;generalize j.desc=D at hd h;cases D with
 |int k=>
  obtain ⟨p,h1,h2⟩:=ae (show ai (intOf x) (fun p=>some (SV.int k (GJ k p.2)))=some z from h)
  cases h2;obtain rfl:=jR h1;cases hu with|int _ _ e1=>
  subst e1;exact ⟨_,by simp[convert,run_underlying hd1,run_underlying hd,Conv.intToInt]<;>rfl,.int _ _ (aas _ _ _).symm⟩
 |string=>
  obtain ⟨s,h1,h2⟩:=ae (show ai (strOf x) (fun s=>some (SV.str s))=some z from h)
  cases h2;obtain rfl:=fE h1;cases hu;exact ⟨_,by simp[convert,run_underlying hd1,run_underlying hd]<;>rfl,.str _⟩
 |_=>cases h
theorem Yy {op:UnOp} {x z:SV} {u:Value} (h:unA op x=some z) (hu:VR g u x) {P:Program} (w:World):∃r,(Op.unary op u).run P w= .ok r w/\VR g r z:=by
 cases hu with
 |bool b=>
  obtain ⟨h1,h2⟩:=ar (show sel (Bu op) (some (SV.bool (!b))) none=some z from h);cases h2;cases op<;>first|(simp[Bu] at h1;done)|exact ⟨_,rfl,.bool _⟩
 |int k e he=>
  obtain ⟨h1,h2⟩:=ar (show sel (isNeg op) (some (SV.int k (zn k (.lit 0) e))) none=some z from h);cases h2;subst he;cases op<;>first|(simp[isNeg] at h1;done)|exact ⟨.int k (k.wrap (0-e.ev g.η)),by simp[Op.unary,Op.intArith],.int _ _ (by rw[N2];simp only[SI.ev])⟩
 |_=>cases h
end
end Go.Sim
end
