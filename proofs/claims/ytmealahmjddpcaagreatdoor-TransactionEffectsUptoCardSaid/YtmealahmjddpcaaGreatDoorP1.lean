/- Texts that belong together. The first: A machine over trees of slots and a heap of numbered blocks, that the kernel can run. Definitions. -/
import Derived.WalkKit
import Derived.RangeFuncLeaves
import Derived.OrdersIn
import Derived.WalkLawsBesides
import Derived.Great.BuildSlice
set_option linter.all false
noncomputable section
namespace Go.Sim
inductive SI where
 |lit (n:Int)
 |var (i:Nat)
 |add (k:IntKind) (a b:SI)
 |sub (k:IntKind) (a b:SI)
 |conv (k:IntKind) (a:SI)
 deriving Inhabited
def SI.ev (η:Nat→Int):SI→Int
 | .lit n=>n
 | .var i=>η i
 | .add k a b=>k.wrap (a.ev η+b.ev η)
 | .sub k a b=>k.wrap (a.ev η - b.ev η)
 | .conv k a=>k.wrap (a.ev η)
def bV:IntKind→IntKind→Bool
 | .i8,.i8| .i16,.i16| .i32,.i32| .i64,.i64| .u8,.u8| .u16,.u16| .u32,.u32| .u64,.u64=>true
 |_,_=>false
def r7:Int→Int→Bool
 | .ofNat a,.ofNat b=>Nat.beq a b
 | .negSucc a,.negSucc b=>Nat.beq a b
 |_,_=>false
def mf:Int→Int→Bool
 | .ofNat a,.ofNat b=>Nat.ble (a+1) b
 | .negSucc _,.ofNat _=>true
 | .ofNat _,.negSucc _=>false
 | .negSucc a,.negSucc b=>Nat.ble (b+1) a
def SI.eqb:SI→SI→Bool
 | .lit a,.lit b=>r7 a b
 | .var a,.var b=>Nat.beq a b
 | .add k a b,.add k' a' b'=>bV k k'&&(a.eqb a'&&b.eqb b')
 | .sub k a b,.sub k' a' b'=>bV k k'&&(a.eqb a'&&b.eqb b')
 | .conv k a,.conv k' a'=>bV k k'&&a.eqb a'
 |_,_=>false
inductive Cp where
 |k (n:Nat)
 |u (e:TypeId)
 deriving Inhabited
inductive SV where
 |bool (b:Bool)
 |int (k:IntKind) (e:SI)
 |str (s:ByteArray)
 |ptr (id off:Nat)
 |cz
 |sl (id off n:Nat) (cap:Cp)
 |sle
 |aR
 |mp (id:Nat)
 |cA
 |fn (f:Fn) (first cf:List SV)
 |yld (id:Nat)
 |cK
 |ifc (t:TypeId) (v:SV)
 |cg
 |agg (cs:List SV)
 |tup (vs:List SV)
 |undef
 deriving Inhabited
inductive Tr (α:Type) where
 |nil
 |node (l:Tr α) (v:Option α) (r:Tr α)
 deriving Inhabited
@[reducible] def sel {α:Type} (b:Bool) (x y:α):α:= @Bool.rec (fun _=>α) y x b
def Tr.get {α:Type} (t:Tr α):Nat→Option α:=
 @Tr.rec α (fun _=>Nat→Option α) (fun _=>none) (fun _ v _ gl gr i=> @Bool.rec (fun _=>Option α) (@Bool.rec (fun _=>Option α) (gr (Nat.sub (Nat.div i 2) 1)) (gl (Nat.div i 2)) (Nat.beq (Nat.mod i 2) 1)) v (Nat.beq i 0)) t
def Tr.vf {α:Type} (n:Nat):Tr α→Nat→Option α→Tr α:=
 @Nat.rec (fun _=>Tr α→Nat→Option α→Tr α) (fun t _ _=>t) (fun _ ih t i x=>
  @Tr.rec α (fun _=>Tr α)
   (@Bool.rec (fun _=>Tr α) (@Bool.rec (fun _=>Tr α) (.node .nil none (ih .nil (Nat.sub (Nat.div i 2) 1) x)) (.node (ih .nil (Nat.div i 2) x) none .nil) (Nat.beq (Nat.mod i 2) 1)) (.node .nil x .nil) (Nat.beq i 0))
   (fun l v r _ _=> @Bool.rec (fun _=>Tr α) (@Bool.rec (fun _=>Tr α) (.node l v (ih r (Nat.sub (Nat.div i 2) 1) x)) (.node (ih l (Nat.div i 2) x) v r) (Nat.beq (Nat.mod i 2) 1)) (.node l x r) (Nat.beq i 0)) t) n
def Tr.set {α:Type} (t:Tr α) (i:Nat) (x:Option α):Tr α:=Tr.vf (Nat.succ i) t i x
inductive SO where
 |cells (e:TypeId) (cs:List SV)
 |map (es:List (SV×SV×Nat)) (clock:Nat)
 |gm (s:ByteArray) (pos:Nat)
 |mapIter (map:Option Nat) (since:Nat) (seen:List Nat) (akT:Nat)
 |loop (nt:Nat) (tm:Tr SV) (params:List Nat) (assign body:Code) (state:LoopState) (pending:Option Code) (dfr:Nat)
 |dfr
 |ro (cs:List SV)
 deriving Inhabited
structure FL where
 type:TypeId
 off:Nat
 named:Bool
inductive UD where
 |bool|int (k:IntKind)|string|pointer|slice (e:TypeId)|array (n:Nat) (e:TypeId)|map (k e:TypeId)|struct (fs:List FL)|func|interface|other
 deriving Inhabited
structure TI where
 desc:UD
 size:Nat
 bytes:Nat
 zero:List SV
 comparable:Bool
 deriving Inhabited
structure Mo where
 k:Nat
 aa:List SV
 inp:List (Nat×SO)
 nx:Nat
 v:SV
 out:List (Nat×SO)
 nx':Nat
structure Env where
 P:Program
 ty:Tr TI
 fn:Tr Func
 lt:List (SI×SI×Bool)
 eq:List (SI×SI×Bool)
 done:List (Nat×SV):= []
 join:List Nat:= []
 jZ:List (Nat×Nat):= []
 fE:List Mo:= []
 stop:List Nat:= []
def look (a b:SI):List (SI×SI×Bool)→Option Bool
 | []=>none
 |(x,y,r)::l=>sel (x.eqb a&&y.eqb b) (some r) (look a b l)
def ltS (E:Env) (a b:SI):Option Bool:=look a b E.lt
def ltI (E:Env):SI→SI→Option Bool
 | .lit a,.lit b=>some (mf a b)
 |a,b=>ltS E a b
def eqS (E:Env) (a b:SI):Option Bool:=sel (a.eqb b) (some true) (look a b E.eq)
def eqI (E:Env):SI→SI→Option Bool
 | .lit x,.lit y=>some (r7 x y)
 |a,b=>eqS E a b
def cF {α:Type} (P:Program):Sem α→Option α
 | .pure a=>some a
 | .program k=>cF P (k P)
 |_=>none
mutual
def kJ:Value→SV
 | .bool b=>.bool b
 | .int k n=>.int k (.lit n)
 | .string s=>.str s
 | .pointer none=>.cz
 | .slice none 0 0=>.aR
 | .map none=>.cA
 | .nilFunc=>.cK
 | .nilIface=>.cg
 | .agg ⟨cs⟩=>sel (cs.all Value.oneCell') (.agg (ig cs)) .undef
 | .tuple ⟨cs⟩=>.tup (ig cs)
 |_=>.undef
def ig:List Value→List SV
 | []=> []
 |v::vs=>kJ v::ig vs
end
abbrev Hp:=Tr SO
abbrev Hf:=Nat→Option SO
abbrev Up:=Nat×Option SO
structure Hs where
 hp:Hp
 nx:Nat
 lg:List Nat
 deriving Inhabited
abbrev Tf:=Nat→Option SV
def aI (tm:Tf):Operand→Option SV
 | .tmp t=>tm t
 | .const v=>some (kJ v)
 | .global _=>none
 | .func f=>some (.fn (.func f) [] [])
def SV.cells (x:SV):Option (List SV):= @SV.rec (fun _=>Option (List SV)) (fun _=>PUnit) (fun b=>some [.bool b]) (fun k e=>some [.int k e]) (fun s=>some [.str s]) (fun i o=>some [.ptr i o]) (some [.cz]) (fun a b c d=>some [.sl a b c d]) (some [.sle]) (some [.aR]) (fun i=>some [.mp i]) (some [.cA]) (fun f a c _ _=>some [.fn f a c]) (fun i=>some [.yld i]) (some [.cK]) (fun t v _=>some [.ifc t v]) (some [.cg]) (fun cs _=>some cs) (fun _ _=>none) (none) PUnit.unit (fun _ _ _ _=>PUnit.unit) x
def eU (d:UD):Bool:= @UD.rec (fun _=>Bool) (false) (fun _=>false) (false) (false) (fun _=>false) (fun _ _=>true) (fun _ _=>false) (fun _=>true) (false) (false) (false) d
def YG:SI→Option Nat
 | .lit (.ofNat n)=>some n
 |_=>none
def Yd (x:SV):Option (Nat×Nat×Nat×Cp):= @SV.rec (fun _=>Option (Nat×Nat×Nat×Cp)) (fun _=>PUnit) (fun _=>none) (fun _ _=>none) (fun _=>none) (fun _ _=>none) (none) (fun i o n c=>some (i,o,n,c)) (none) (none) (fun _=>none) (none) (fun _ _ _ _ _=>none) (fun _=>none) (none) (fun _ _ _=>none) (none) (fun _ _=>none) (fun _ _=>none) (none) PUnit.unit (fun _ _ _ _=>PUnit.unit) x
def eX (x:SV):Option Nat:= @SV.rec (fun _=>Option Nat) (fun _=>PUnit) (fun _=>none) (fun _ e=>YG e) (fun _=>none) (fun _ _=>none) (none) (fun _ _ _ _=>none) (none) (none) (fun _=>none) (none) (fun _ _ _ _ _=>none) (fun _=>none) (none) (fun _ _ _=>none) (none) (fun _ _=>none) (fun _ _=>none) (none) PUnit.unit (fun _ _ _ _=>PUnit.unit) x
def il (x:SV):Option Bool:= @SV.rec (fun _=>Option Bool) (fun _=>PUnit) (fun b=>some b) (fun _ _=>none) (fun _=>none) (fun _ _=>none) (none) (fun _ _ _ _=>none) (none) (none) (fun _=>none) (none) (fun _ _ _ _ _=>none) (fun _=>none) (none) (fun _ _ _=>none) (none) (fun _ _=>none) (fun _ _=>none) (none) PUnit.unit (fun _ _ _ _=>PUnit.unit) x
def intOf (x:SV):Option (IntKind×SI):= @SV.rec (fun _=>Option (IntKind×SI)) (fun _=>PUnit) (fun _=>none) (fun k e=>some (k,e)) (fun _=>none) (fun _ _=>none) (none) (fun _ _ _ _=>none) (none) (none) (fun _=>none) (none) (fun _ _ _ _ _=>none) (fun _=>none) (none) (fun _ _ _=>none) (none) (fun _ _=>none) (fun _ _=>none) (none) PUnit.unit (fun _ _ _ _=>PUnit.unit) x
def strOf (x:SV):Option ByteArray:= @SV.rec (fun _=>Option ByteArray) (fun _=>PUnit) (fun _=>none) (fun _ _=>none) (fun s=>some s) (fun _ _=>none) (none) (fun _ _ _ _=>none) (none) (none) (fun _=>none) (none) (fun _ _ _ _ _=>none) (fun _=>none) (none) (fun _ _ _=>none) (none) (fun _ _=>none) (fun _ _=>none) (none) PUnit.unit (fun _ _ _ _=>PUnit.unit) x
def lp (x:SV):Option (Nat×Nat):= @SV.rec (fun _=>Option (Nat×Nat)) (fun _=>PUnit) (fun _=>none) (fun _ _=>none) (fun _=>none) (fun i o=>some (i,o)) (none) (fun _ _ _ _=>none) (none) (none) (fun _=>none) (none) (fun _ _ _ _ _=>none) (fun _=>none) (none) (fun _ _ _=>none) (none) (fun _ _=>none) (fun _ _=>none) (none) PUnit.unit (fun _ _ _ _=>PUnit.unit) x
def ur (x:SV):Option (List SV):= @SV.rec (fun _=>Option (List SV)) (fun _=>PUnit) (fun _=>none) (fun _ _=>none) (fun _=>none) (fun _ _=>none) (none) (fun _ _ _ _=>none) (none) (none) (fun _=>none) (none) (fun _ _ _ _ _=>none) (fun _=>none) (none) (fun _ _ _=>none) (none) (fun cs _=>some cs) (fun _ _=>none) (none) PUnit.unit (fun _ _ _ _=>PUnit.unit) x
def zN (x:SV):Option (List SV):= @SV.rec (fun _=>Option (List SV)) (fun _=>PUnit) (fun _=>none) (fun _ _=>none) (fun _=>none) (fun _ _=>none) (none) (fun _ _ _ _=>none) (none) (none) (fun _=>none) (none) (fun _ _ _ _ _=>none) (fun _=>none) (none) (fun _ _ _=>none) (none) (fun _ _=>none) (fun cs _=>some cs) (none) PUnit.unit (fun _ _ _ _=>PUnit.unit) x
def YH (x:SV):Option Nat:= @SV.rec (fun _=>Option Nat) (fun _=>PUnit) (fun _=>none) (fun _ _=>none) (fun _=>none) (fun _ _=>none) (none) (fun _ _ _ _=>none) (none) (none) (fun i=>some i) (none) (fun _ _ _ _ _=>none) (fun _=>none) (none) (fun _ _ _=>none) (none) (fun _ _=>none) (fun _ _=>none) (none) PUnit.unit (fun _ _ _ _=>PUnit.unit) x
def oi (x:SV):Option Nat:= @SV.rec (fun _=>Option Nat) (fun _=>PUnit) (fun _=>none) (fun _ _=>none) (fun _=>none) (fun _ _=>none) (none) (fun _ _ n _=>some n) (some 0) (some 0) (fun _=>none) (none) (fun _ _ _ _ _=>none) (fun _=>none) (none) (fun _ _ _=>none) (none) (fun _ _=>none) (fun _ _=>none) (none) PUnit.unit (fun _ _ _ _=>PUnit.unit) x
def vD (x:SV):Bool:= @SV.rec (fun _=>Bool) (fun _=>PUnit) (fun _=>false) (fun _ _=>false) (fun _=>false) (fun _ _=>false) (false) (fun _ _ _ _=>true) (true) (true) (fun _=>false) (false) (fun _ _ _ _ _=>false) (fun _=>false) (false) (fun _ _ _=>false) (false) (fun _ _=>false) (fun _ _=>false) (false) PUnit.unit (fun _ _ _ _=>PUnit.unit) x
def Av (x:SV):Option SV:= @SV.rec (fun _=>Option SV) (fun _=>PUnit) (fun _=>none) (fun _ _=>none) (fun _=>none) (fun i o=>some (.ptr i o)) (none) (fun _ _ _ _=>none) (none) (none) (fun _=>none) (none) (fun f a c _ _=>some (.fn f a c)) (fun l=>some (.yld l)) (none) (fun _ _ _=>none) (none) (fun _ _=>none) (fun _ _=>none) (none) PUnit.unit (fun _ _ _ _=>PUnit.unit) x
def cO (i:TI) (cs:List SV) (off:Nat):Option SV:=
 sel (eU i.desc) (sel (Nat.ble (Nat.add off i.size) cs.length) (some (.agg ((cs.drop off).take i.size))) none) (cs[off]?)
def bI (cs:List SV) (off:Nat) (xs:List SV):List SV:=cs.take off++xs++cs.drop (Nat.add off xs.length)
def ai {α γ:Type} (x:Option α) (f:α→Option γ):Option γ:= @Option.rec α (fun _=>Option γ) none f x
def aF {α β γ:Type} (x:Option α) (y:Option β) (f:α→β→Option γ):Option γ:= @Option.rec α (fun _=>Option γ) none (fun a=> @Option.rec β (fun _=>Option γ) none (f a) y) x
def o7 {α β δ γ:Type} (x:Option α) (y:Option β) (z:Option δ) (f:α→β→δ→Option γ):Option γ:=ai x fun a=>aF y z fun b c=>f a b c
def andThen (r:Option Bool) (k:Option Bool):Option Bool:=
 match r with
 |some true=>k
 |r=>r
def ud (E:Env) (eq:TypeId→SV→SV→Option Bool) (xs ys:List SV):List FL→Option Bool
 | []=>some true
 |f::fs=>sel f.named (ai (E.ty.get f.type) fun i=>aF (cO i xs f.off) (cO i ys f.off) fun x y=>andThen (eq f.type x y) (ud E eq xs ys fs)) none
def Xh (x y:SV):Option Bool:=aF (il x) (il y) fun a b=>some (a==b)
def aid (E:Env) (x y:SV):Option Bool:=aF (intOf x) (intOf y) fun a b=>sel (bV a.1 b.1) (eqI E a.2 b.2) none
def jS:List UInt8→List UInt8→Bool
 | [],[]=>true
 |a::l,b::m=>Nat.beq a.toNat b.toNat&&jS l m
 |_,_=>false
def pJ (a b:ByteArray):Bool:=jS a.data.toList b.data.toList
def eqStr (x y:SV):Option Bool:=aF (strOf x) (strOf y) fun a b=>some (pJ a b)
def FY:SV→SV→Option Bool
 | .cz,.cz=>some true
 | .cz,.ptr _ _=>some false
 | .ptr _ _,.cz=>some false
 |_,_=>none
def D3:SV→SV→Option Bool
 | .aR,.aR=>some true
 | .aR,.sl _ _ _ _=>some false
 | .sl _ _ _ _,.aR=>some false
 |_,_=>none
def FZ:SV→SV→Option Bool
 | .cA,.cA=>some true
 | .cA,.mp _=>some false
 | .mp _,.cA=>some false
 |_,_=>none
def Q6:SV→SV→Option Bool
 | .cK,.cK=>some true
 | .cK,.fn _ _ _=>some false
 | .fn _ _ _,.cK=>some false
 |_,_=>none
def F0 (E:Env) (eq:TypeId→SV→SV→Option Bool):SV→SV→Option Bool
 | .cg,.cg=>some true
 | .cg,.ifc _ _=>some false
 | .ifc _ _,.cg=>some false
 | .ifc t1 v1,.ifc t2 v2=>sel (Nat.beq t1 t2) (ai (E.ty.get t1) fun i1=>sel i1.comparable (eq t1 v1 v2) none) (some false)
 |_,_=>none
def Xz (x y:SV):Option (List SV×List SV):=aF (ur x) (ur y) fun xs ys=>some (xs,ys)
def ZG (E:Env) (eq:TypeId→SV→SV→Option Bool) (t:TypeId) (fs:List FL) (x y:SV):Option Bool:=ai (Xz x y) fun p=>sel (E.P.stoodInHeld t) none (ud E eq p.1 p.2 fs)
def eqD (d:UD):Env→(TypeId→SV→SV→Option Bool)→TypeId→SV→SV→Option Bool:= @UD.rec (fun _=>Env→(TypeId→SV→SV→Option Bool)→TypeId→SV→SV→Option Bool) (fun _ _ _ x y=>Xh x y) (fun _=>fun E _ _ x y=>aid E x y) (fun _ _ _ x y=>eqStr x y) (fun _ _ _ x y=>FY x y) (fun _=>fun _ _ _ x y=>D3 x y) (fun _ _=>fun _ _ _ _ _=>none) (fun _ _=>fun _ _ _ x y=>FZ x y) (fun fs=>fun E eq t x y=>ZG E eq t fs x y) (fun _ _ _ x y=>Q6 x y) (fun E eq _ x y=>F0 E eq x y) (fun _ _ _ _ _=>none) d
def eqT (E:Env) (n:Nat):TypeId→SV→SV→Option Bool:=
 @Nat.rec (fun _=>TypeId→SV→SV→Option Bool) (fun _ _ _=>none) (fun _ eq t x y=>ai (E.ty.get t) fun i=>eqD i.desc E eq t x y) n
def isConst:Operand→Bool
 | .const _=>true
 |_=>false
def ZH (E:Env) (t:TypeId) (ox oy:Operand) (x:SV):Bool:=
 match x with
 | .cg=>isConst ox||isConst oy
 | .agg _=> !E.P.eqGuardType E.P.depth t
 |_=>true
def uc (E:Env) (t:TypeId) (ox oy:Operand) (x y:SV):Option Bool:=sel (ZH E t ox oy x) (eqT E 20 t x y) none
def eK (neg:Bool) (r:Option Bool):Option SV:=ai r fun b=>some (.bool (sel neg (!b) b))
def fR (r:Option Value):Option SV:=ai r fun v=>some (kJ v)
def lq (E:Env) (op:BinOp) (t:TypeId) (k k':IntKind):SI→SI→Option SV
 | .lit m,.lit n=>fR (cF E.P (binOp op t (.int k m) (.int k' n)))
 |_,_=>none
def Lh (k:IntKind):SI→SI→SI
 | .lit m,.lit n=>.lit (k.wrap (m+n))
 |a,b=>.add k a b
def yG (k:IntKind):SI→SI→SI
 | .lit m,.lit n=>.lit (k.wrap (m-n))
 |a,b=>.sub k a b
def FK (o:BinOp):Env→BinOp→TypeId→IntKind→IntKind→SI→SI→Option SV:= @BinOp.rec (fun _=>Env→BinOp→TypeId→IntKind→IntKind→SI→SI→Option SV) (fun _ _ _ k k2 a b=>sel (bV k k2) (some (.int k (Lh k a b))) none) (fun _ _ _ k k2 a b=>sel (bV k k2) (some (.int k (yG k a b))) none) (fun E op t k k2 a b=>lq E op t k k2 a b) (fun E op t k k2 a b=>lq E op t k k2 a b) (fun E op t k k2 a b=>lq E op t k k2 a b) (fun E op t k k2 a b=>lq E op t k k2 a b) (fun E op t k k2 a b=>lq E op t k k2 a b) (fun E op t k k2 a b=>lq E op t k k2 a b) (fun E op t k k2 a b=>lq E op t k k2 a b) (fun E op t k k2 a b=>lq E op t k k2 a b) (fun E op t k k2 a b=>lq E op t k k2 a b) (fun E _ _ k k2 a b=>sel (bV k k2) (eK false (eqI E a b)) none) (fun E _ _ k k2 a b=>sel (bV k k2) (eK true (eqI E a b)) none) (fun E _ _ k k2 a b=>sel (bV k k2) (eK false (ltI E a b)) none) (fun E _ _ k k2 a b=>sel (bV k k2) (eK true (ltI E b a)) none) (fun E _ _ k k2 a b=>sel (bV k k2) (eK false (ltI E b a)) none) (fun E _ _ k k2 a b=>sel (bV k k2) (eK true (ltI E a b)) none) o
def O4 (o:BinOp):Env→BinOp→TypeId→ByteArray→ByteArray→Option SV:= @BinOp.rec (fun _=>Env→BinOp→TypeId→ByteArray→ByteArray→Option SV) (fun E op t a b=>fR (cF E.P (binOp op t (.string a) (.string b)))) (fun E op t a b=>fR (cF E.P (binOp op t (.string a) (.string b)))) (fun E op t a b=>fR (cF E.P (binOp op t (.string a) (.string b)))) (fun E op t a b=>fR (cF E.P (binOp op t (.string a) (.string b)))) (fun E op t a b=>fR (cF E.P (binOp op t (.string a) (.string b)))) (fun E op t a b=>fR (cF E.P (binOp op t (.string a) (.string b)))) (fun E op t a b=>fR (cF E.P (binOp op t (.string a) (.string b)))) (fun E op t a b=>fR (cF E.P (binOp op t (.string a) (.string b)))) (fun E op t a b=>fR (cF E.P (binOp op t (.string a) (.string b)))) (fun E op t a b=>fR (cF E.P (binOp op t (.string a) (.string b)))) (fun E op t a b=>fR (cF E.P (binOp op t (.string a) (.string b)))) (fun _ _ _ a b=>some (.bool (pJ a b))) (fun _ _ _ a b=>some (.bool (!pJ a b))) (fun E op t a b=>fR (cF E.P (binOp op t (.string a) (.string b)))) (fun E op t a b=>fR (cF E.P (binOp op t (.string a) (.string b)))) (fun E op t a b=>fR (cF E.P (binOp op t (.string a) (.string b)))) (fun E op t a b=>fR (cF E.P (binOp op t (.string a) (.string b)))) o
def eG (o:BinOp):Env→TypeId→Operand→Operand→SV→SV→Option SV:= @BinOp.rec (fun _=>Env→TypeId→Operand→Operand→SV→SV→Option SV) (fun _ _ _ _ _ _=>none) (fun _ _ _ _ _ _=>none) (fun _ _ _ _ _ _=>none) (fun _ _ _ _ _ _=>none) (fun _ _ _ _ _ _=>none) (fun _ _ _ _ _ _=>none) (fun _ _ _ _ _ _=>none) (fun _ _ _ _ _ _=>none) (fun _ _ _ _ _ _=>none) (fun _ _ _ _ _ _=>none) (fun _ _ _ _ _ _=>none) (fun E t ox oy x y=>eK false (uc E t ox oy x y)) (fun E t ox oy x y=>eK true (uc E t ox oy x y)) (fun _ _ _ _ _ _=>none) (fun _ _ _ _ _ _=>none) (fun _ _ _ _ _ _=>none) (fun _ _ _ _ _ _=>none) o
def KX (E:Env) (op:BinOp) (t:TypeId) (k:IntKind) (a:SI) (y:SV):Option SV:=ai (intOf y) fun p=>FK op E op t k p.1 a p.2
def Xq (E:Env) (op:BinOp) (t:TypeId) (a:ByteArray) (y:SV):Option SV:=ai (strOf y) fun b=>O4 op E op t a b
def Z4 (x:SV):Env→BinOp→TypeId→Operand→Operand→SV→SV→Option SV:= @SV.rec (fun _=>Env→BinOp→TypeId→Operand→Operand→SV→SV→Option SV) (fun _=>PUnit) (fun _=>fun E op t ox oy x y=>eG op E t ox oy x y) (fun k a=>fun E op t _ _ _ y=>KX E op t k a y) (fun a=>fun E op t _ _ _ y=>Xq E op t a y) (fun _ _=>fun E op t ox oy x y=>eG op E t ox oy x y) (fun E op t ox oy x y=>eG op E t ox oy x y) (fun _ _ _ _=>fun E op t ox oy x y=>eG op E t ox oy x y) (fun E op t ox oy x y=>eG op E t ox oy x y) (fun E op t ox oy x y=>eG op E t ox oy x y) (fun _=>fun E op t ox oy x y=>eG op E t ox oy x y) (fun E op t ox oy x y=>eG op E t ox oy x y) (fun _ _ _ _ _=>fun E op t ox oy x y=>eG op E t ox oy x y) (fun _=>fun E op t ox oy x y=>eG op E t ox oy x y) (fun E op t ox oy x y=>eG op E t ox oy x y) (fun _ _ _=>fun E op t ox oy x y=>eG op E t ox oy x y) (fun E op t ox oy x y=>eG op E t ox oy x y) (fun _ _=>fun E op t ox oy x y=>eG op E t ox oy x y) (fun _ _=>fun E op t ox oy x y=>eG op E t ox oy x y) (fun E op t ox oy x y=>eG op E t ox oy x y) PUnit.unit (fun _ _ _ _=>PUnit.unit) x
def sj (E:Env) (op:BinOp) (t:TypeId) (ox oy:Operand) (x y:SV):Option SV:=Z4 x E op t ox oy x y
def Ga (k:IntKind):SI→SI
 | .lit n=>.lit (k.wrap n)
 |e=>.conv k e
def Gc (d:UD):SV→Option SV:= @UD.rec (fun _=>SV→Option SV) (fun _=>none) (fun k=>fun x=>ai (intOf x) fun p=>some (.int k (Ga k p.2))) (fun x=>ai (strOf x) fun s=>some (.str s)) (fun _=>none) (fun _=>fun _=>none) (fun _ _=>fun _=>none) (fun _ _=>fun _=>none) (fun _=>fun _=>none) (fun _=>none) (fun _=>none) (fun _=>none) d
def Br (E:Env) (src dst:TypeId) (x:SV):Option SV:=aF (E.ty.get src) (E.ty.get dst) fun _ i=>Gc i.desc x
def AP:UnOp→Bool
 | .not=>true
 |_=>false
def isNeg:UnOp→Bool
 | .neg=>true
 |_=>false
def unV (x:SV):UnOp→Option SV:= @SV.rec (fun _=>UnOp→Option SV) (fun _=>PUnit) (fun b=>fun op=>sel (AP op) (some (.bool (!b))) none) (fun k e=>fun op=>sel (isNeg op) (some (.int k (yG k (.lit 0) e))) none) (fun _=>fun _=>none) (fun _ _=>fun _=>none) (fun _=>none) (fun _ _ _ _=>fun _=>none) (fun _=>none) (fun _=>none) (fun _=>fun _=>none) (fun _=>none) (fun _ _ _ _ _=>fun _=>none) (fun _=>fun _=>none) (fun _=>none) (fun _ _ _=>fun _=>none) (fun _=>none) (fun _ _=>fun _=>none) (fun _ _=>fun _=>none) (fun _=>none) PUnit.unit (fun _ _ _ _=>PUnit.unit) x
def unA (op:UnOp) (x:SV):Option SV:=unV x op
def fT (place:Nat→Option (Nat×Nat)) (cs:List SV):List (Nat×List SV)→Option (List SV)
 | []=>some cs
 |p::rest=>ai (place p.1) fun q=>sel (Nat.beq p.2.length q.2&&Nat.ble (Nat.add q.1 q.2) cs.length) (fT place (bI cs q.1 p.2) rest) none
def ep (tm:Tf):List (Nat×Operand)→Option (List (Nat×List SV))
 | []=>some []
 |p::rest=>ai (aI tm p.2) fun v=>aF v.cells (ep tm rest) fun cs l=>some ((p.1,cs)::l)
def rep (z:List SV):Nat→List SV
 |0=> []
 |n+1=>z++rep z n
def Aj (E:Env) (fs:List FL) (j:Nat):Option (Nat×Nat):=ai (fs[j]?) fun f=>ai (E.ty.get f.type) fun fi=>some (f.off,fi.size)
def jh (size:Nat) (j:Nat):Option (Nat×Nat):=some (Nat.mul j size,size)
def wm (r:Option (List SV)):Option SV:=ai r fun cs=>some (.agg cs)
def Xo (d:UD):Env→List SV→List (Nat×List SV)→Option SV:= @UD.rec (fun _=>Env→List SV→List (Nat×List SV)→Option SV) (fun _ _ _=>none) (fun _=>fun _ _ _=>none) (fun _ _ _=>none) (fun _ _ _=>none) (fun _=>fun _ _ _=>none) (fun _ e=>fun E z pcs=>ai (E.ty.get e) fun ie=>wm (fT (jh ie.size) z pcs)) (fun _ _=>fun _ _ _=>none) (fun fs=>fun E z pcs=>wm (fT (Aj E fs) z pcs)) (fun _ _ _=>none) (fun _ _ _=>none) (fun _ _ _=>none) d
def nZ (E:Env) (t:TypeId) (pcs:List (Nat×List SV)):Option SV:=ai (E.ty.get t) fun i=>Xo i.desc E i.zero pcs
def Hs.up (h:Hs) (u:Up):Hs:=⟨h.hp.set u.1 u.2,h.nx,u.1::h.lg⟩
def Hs.ups (h:Hs) (us:List Up):Hs:= @List.rec Up (fun _=>Hs→Hs) (fun h=>h) (fun u _ ih h=>ih (h.up u)) us h
def Hs.put (h:Hs) (id:Nat) (o:SO):Hs:=h.up (id,some o)
def Hs.bump (h:Hs):Hs:=⟨h.hp,Nat.add h.nx 1,h.lg⟩
def Hs.fin (h:Hs) (us:List Up):Hs:= @List.rec Up (fun _=>Hs) h (fun _ _ _=>(h.ups us).bump) us
def jQ:Option SO→Option (TypeId×List SV)
 |some (.cells e cs)=>some (e,cs)
 |_=>none
def isU:SV→Bool
 | .undef=>true
 |_=>false
def kY:List SV→Bool
 | []=>true
 |x::l=>sel (isU x) false (kY l)
def cD (o:Option SO) (off n:Nat):Option (TypeId×List SV):=
 match o with
 |some (.cells e cs)=>some (e,cs)
 |some (.ro cs)=>sel (kY ((cs.drop off).take n)) (some (0,cs)) none
 |_=>none
def eH (h:Hf) (id off n:Nat):Option (List SV):=ai (cD (h id) off n) fun p=>sel (Nat.ble (Nat.add off n) p.2.length) (some ((p.2.drop off).take n)) none
def rowOf (x:SV):Hf→Nat→Option (List SV):= @SV.rec (fun _=>Hf→Nat→Option (List SV)) (fun _=>PUnit) (fun _=>fun _ _=>none) (fun _ _=>fun _ _=>none) (fun _=>fun _ _=>none) (fun _ _=>fun _ _=>none) (fun _ _=>none) (fun i o n _=>fun h size=>eH h i o (Nat.mul n size)) (fun _ _=>some []) (fun _ _=>some []) (fun _=>fun _ _=>none) (fun _ _=>none) (fun _ _ _ _ _=>fun _ _=>none) (fun _=>fun _ _=>none) (fun _ _=>none) (fun _ _ _=>fun _ _=>none) (fun _ _=>none) (fun _ _=>fun _ _=>none) (fun _ _=>fun _ _=>none) (fun _ _=>none) PUnit.unit (fun _ _ _ _=>PUnit.unit) x
def wide (i:TI):Nat:=sel (eU i.desc) i.size 1
def iJ (E:Env) (h:Hf) (t:TypeId) (v:SV):Option SV:=ai (lp v) fun q=>ai (E.ty.get t) fun i=>ai (cD (h q.1) q.2 (wide i)) fun p=>cO i p.2 q.2
def jb (E:Env) (h:Hf) (t:TypeId) (v:SV) (a:SV):Option (List Up):=
 ai (lp a) fun q=>o7 (E.ty.get t) v.cells (jQ (h q.1)) fun i xs p=>sel (Nat.beq xs.length i.size&&Nat.ble (Nat.add q.2 xs.length) p.2.length) (some [(q.1,some (.cells p.1 (bI p.2 q.2 xs)))]) none
def pF (E:Env) (e:TypeId) (id off n k:Nat):Option SV:=sel (Nat.ble (Nat.succ k) n) (ai (E.ty.get e) fun ie=>some (.ptr id (Nat.add off (Nat.mul k ie.size)))) none
def AS (d:UD):Env→SV→Nat→Option SV:= @UD.rec (fun _=>Env→SV→Nat→Option SV) (fun _ _ _=>none) (fun _=>fun _ _ _=>none) (fun _ _ _=>none) (fun _ _ _=>none) (fun e=>fun E x k=>ai (Yd x) fun q=>pF E e q.1 q.2.1 q.2.2.1 k) (fun n e=>fun E x k=>ai (lp x) fun q=>pF E e q.1 q.2 n k) (fun _ _=>fun _ _ _=>none) (fun _=>fun _ _ _=>none) (fun _ _ _=>none) (fun _ _ _=>none) (fun _ _ _=>none) d
def gQ (E:Env) (t:TypeId) (x:SV) (k:Nat):Option SV:=ai (E.ty.get t) fun i=>AS i.desc E x k
def dv (tm:Tf):Option Operand→Option (Option Nat)
 |none=>some none
 |some x=>ai (aI tm x) fun v=>ai (eX v) fun n=>some (some n)
def kN (m:Cp) (l:Nat):Cp:=
 match m with
 | .k c=>.k (Nat.sub c l)
 | .u e=>.u e
def mu (id off l h size:Nat) (m:Cp):SV:=sel (Nat.beq l 0) (.sl id off h m) (sel (Nat.ble (Nat.succ l) h) (.sl id (Nat.add off (Nat.mul l size)) (Nat.sub h l) (kN m l)) .sle)
def FF (mx:Option Nat) (h reach:Nat):Bool:=
 match mx with
 |some m=>Nat.ble h m&&Nat.ble m reach
 |none=>true
def orC (a:Option Nat) (b:Cp):Cp:=
 match a with
 |some m=>.k m
 |none=>b
def reach (c:Cp) (n:Nat):Nat:=
 match c with
 | .k m=>m
 | .u _=>n
def nJ (c:Cp) (e:TypeId):Bool:=
 match c with
 | .k _=>true
 | .u e'=>Nat.beq e' e
def jd (E:Env) (e:TypeId) (id off n:Nat) (cap:Cp) (lo hi mx:Option Nat):Option SV:=
 ai (E.ty.get e) fun ie=>sel (nJ cap e&&(Nat.ble (lo.getD 0) (hi.getD n)&&(Nat.ble (hi.getD n) (reach cap n)&&FF mx (hi.getD n) (reach cap n)))) (some (mu id off (lo.getD 0) (hi.getD n) ie.size (orC mx cap))) none
def IS (s:ByteArray) (lo hi mx:Option Nat):Option SV:=
 match mx with
 |some _=>none
 |none=>sel (Nat.ble (lo.getD 0) (hi.getD s.size)&&Nat.ble (hi.getD s.size) s.size) (some (.str (s.extract (lo.getD 0) (hi.getD s.size)))) none
def fc:Option Nat→Bool
 |some n=>Nat.beq n 0
 |none=>true
def Ab (x:SV):Env→TypeId→Option Nat→Option Nat→Option Nat→Option SV:= @SV.rec (fun _=>Env→TypeId→Option Nat→Option Nat→Option Nat→Option SV) (fun _=>PUnit) (fun _=>fun _ _ _ _ _=>none) (fun _ _=>fun _ _ _ _ _=>none) (fun _=>fun _ _ _ _ _=>none) (fun _ _=>fun _ _ _ _ _=>none) (fun _ _ _ _ _=>none) (fun i o n c=>fun E e lo hi mx=>jd E e i o n c lo hi mx) (fun _ _ lo hi mx=>sel (fc lo&&(fc hi&&mx.isNone)) (some .sle) none) (fun _ _ lo hi mx=>sel (fc lo&&(fc hi&&fc mx)) (some .aR) none) (fun _=>fun _ _ _ _ _=>none) (fun _ _ _ _ _=>none) (fun _ _ _ _ _=>fun _ _ _ _ _=>none) (fun _=>fun _ _ _ _ _=>none) (fun _ _ _ _ _=>none) (fun _ _ _=>fun _ _ _ _ _=>none) (fun _ _ _ _ _=>none) (fun _ _=>fun _ _ _ _ _=>none) (fun _ _=>fun _ _ _ _ _=>none) (fun _ _ _ _ _=>none) PUnit.unit (fun _ _ _ _=>PUnit.unit) x
def Uz (d:UD):Env→SV→Option Nat→Option Nat→Option Nat→Option SV:= @UD.rec (fun _=>Env→SV→Option Nat→Option Nat→Option Nat→Option SV) (fun _ _ _ _ _=>none) (fun _=>fun _ _ _ _ _=>none) (fun _ x lo hi mx=>ai (strOf x) fun s=>IS s lo hi mx) (fun _ _ _ _ _=>none) (fun e=>fun E x lo hi mx=>ai (E.ty.get e) fun _=>Ab x E e lo hi mx) (fun n e=>fun E x lo hi mx=>ai (lp x) fun q=>jd E e q.1 q.2 n (.k n) lo hi mx) (fun _ _=>fun _ _ _ _ _=>none) (fun _=>fun _ _ _ _ _=>none) (fun _ _ _ _ _=>none) (fun _ _ _ _ _=>none) (fun _ _ _ _ _=>none) d
def FG (hi mx:Option Nat):Bool:=
 match mx with
 |some _=>hi.isSome
 |none=>true
def pL (E:Env) (t:TypeId) (x:SV) (lo hi mx:Option Nat):Option SV:=ai (E.ty.get t) fun i=>sel (FG hi mx) (Uz i.desc E x lo hi mx) none
def sY (s:ByteArray):List SV:=s.data.toList.map fun b=>.int .u8 (.lit b.toNat)
def dL (h:Hf) (size:Nat) (x:SV):Option (Nat×List SV):=aF (oi x) (rowOf x h size) fun n xs=>some (n,xs)
def srcV (x:SV):Hf→Nat→SV→Option (Nat×List SV):= @SV.rec (fun _=>Hf→Nat→SV→Option (Nat×List SV)) (fun _=>PUnit) (fun _=>fun h size x=>dL h size x) (fun _ _=>fun h size x=>dL h size x) (fun b=>fun _ size _=>sel (Nat.beq size 1) (some (b.size,sY b)) none) (fun _ _=>fun h size x=>dL h size x) (fun h size x=>dL h size x) (fun _ _ _ _=>fun h size x=>dL h size x) (fun h size x=>dL h size x) (fun h size x=>dL h size x) (fun _=>fun h size x=>dL h size x) (fun h size x=>dL h size x) (fun _ _ _ _ _=>fun h size x=>dL h size x) (fun _=>fun h size x=>dL h size x) (fun h size x=>dL h size x) (fun _ _ _=>fun h size x=>dL h size x) (fun h size x=>dL h size x) (fun _ _=>fun h size x=>dL h size x) (fun _ _=>fun h size x=>dL h size x) (fun h size x=>dL h size x) PUnit.unit (fun _ _ _ _=>PUnit.unit) x
def iW (h:Hf) (size:Nat) (x:SV):Option (Nat×List SV):=srcV x h size x
def da (ie:TI):Bool:=Nat.ble ie.bytes 65536&&(Nat.ble 1 ie.size&&Nat.beq ie.zero.length ie.size)
def me (new:Nat) (e:TypeId) (n:Nat) (cs:List SV) (us:List Up):Option (SV×List Up):=some (.sl new 0 n (.u e),us++ [(new,some (.cells e cs))])
def xp (new:Nat) (e:TypeId) (size id off n:Nat) (cap:Cp) (m:Nat) (xs:List SV) (p:TypeId×List SV) (old:List SV):Option (SV×List Up):=
 match cap with
 | .k c=>
  sel (Nat.ble (Nat.add n m) c)
   (sel (Nat.ble (Nat.add off (Nat.mul (Nat.add n m) size)) p.2.length) (some (.sl id off (Nat.add n m) cap,[(id,some (.cells p.1 (bI p.2 (Nat.add off (Nat.mul n size)) xs)))])) none)
   (me new e (Nat.add n m) (old++xs) [])
 | .u _=>sel (Nat.ble (Nat.add off (Nat.mul n size)) p.2.length&&Nat.beq e p.1) (me new e (Nat.add n m) (old++xs) [(id,none)]) none
def FQ (n m:Nat):Cp→Bool
 | .k c=>Nat.ble (Nat.succ c) (Nat.add n m)
 | .u _=>false
def rJ (h:Hf) (new:Nat) (e:TypeId) (size m:Nat) (xs:List SV) (id off n:Nat) (cap:Cp):Option (SV×List Up):=sel (Nat.ble n 1000000) (sel (FQ n m cap) (ai (eH h id off (Nat.mul n size)) fun old=>me new e (Nat.add n m) (old++xs) []) (aF (jQ (h id)) (eH h id off (Nat.mul n size)) fun p old=>xp new e size id off n cap m xs p old)) none
def nF (x:SV):Hf→Nat→TypeId→Nat→Nat→List SV→Option (SV×List Up):= @SV.rec (fun _=>Hf→Nat→TypeId→Nat→Nat→List SV→Option (SV×List Up)) (fun _=>PUnit) (fun _=>fun _ _ _ _ _ _=>none) (fun _ _=>fun _ _ _ _ _ _=>none) (fun _=>fun _ _ _ _ _ _=>none) (fun _ _=>fun _ _ _ _ _ _=>none) (fun _ _ _ _ _ _=>none) (fun i o n c=>fun h new e size m xs=>rJ h new e size m xs i o n c) (fun _ _ _ _ _ _=>none) (fun _ new e _ m xs=>me new e m xs []) (fun _=>fun _ _ _ _ _ _=>none) (fun _ _ _ _ _ _=>none) (fun _ _ _ _ _=>fun _ _ _ _ _ _=>none) (fun _=>fun _ _ _ _ _ _=>none) (fun _ _ _ _ _ _=>none) (fun _ _ _=>fun _ _ _ _ _ _=>none) (fun _ _ _ _ _ _=>none) (fun _ _=>fun _ _ _ _ _ _=>none) (fun _ _=>fun _ _ _ _ _ _=>none) (fun _ _ _ _ _ _=>none) PUnit.unit (fun _ _ _ _=>PUnit.unit) x
def Eb (E:Env) (h:Hf) (new:Nat) (e:TypeId) (s x:SV):Option (SV×List Up):=
 ai (E.ty.get e) fun ie=>sel (da ie) (ai (iW h ie.size x) fun q=>sel (Nat.ble q.1 1000000) (sel (Nat.beq q.1 0) (sel (vD s) (some (s,[])) none) (nF s h new e ie.size q.1 q.2)) none) none
def je (d:UD):Option TypeId:= @UD.rec (fun _=>Option TypeId) (none) (fun _=>none) (none) (none) (fun e=>some e) (fun _ _=>none) (fun _ _=>none) (fun _=>none) (none) (none) (none) d
def fC (E:Env) (h:Hf) (new:Nat) (t:TypeId) (s x:SV):Option (SV×List Up):=ai (E.ty.get t) fun i=>ai (je i.desc) fun e=>Eb E h new e s x
def sX (h:Hf) (size n:Nat) (xs:List SV) (id off:Nat):Option (SV×List Up):=ai (jQ (h id)) fun p=>sel (Nat.ble (Nat.add off (Nat.mul n size)) p.2.length) (some (.int .i64 (.lit (.ofNat n)),[(id,some (.cells p.1 (bI p.2 off (xs.take (Nat.mul n size)))))])) none
def qs (x:SV):Hf→Nat→Nat→List SV→Option (SV×List Up):= @SV.rec (fun _=>Hf→Nat→Nat→List SV→Option (SV×List Up)) (fun _=>PUnit) (fun _=>fun _ _ _ _=>none) (fun _ _=>fun _ _ _ _=>none) (fun _=>fun _ _ _ _=>none) (fun _ _=>fun _ _ _ _=>none) (fun _ _ _ _=>none) (fun i o _ _=>fun h size n xs=>sX h size n xs i o) (fun _ _ n _=>some (.int .i64 (.lit (.ofNat n)),[])) (fun _ _ n _=>some (.int .i64 (.lit (.ofNat n)),[])) (fun _=>fun _ _ _ _=>none) (fun _ _ _ _=>none) (fun _ _ _ _ _=>fun _ _ _ _=>none) (fun _=>fun _ _ _ _=>none) (fun _ _ _ _=>none) (fun _ _ _=>fun _ _ _ _=>none) (fun _ _ _ _=>none) (fun _ _=>fun _ _ _ _=>none) (fun _ _=>fun _ _ _ _=>none) (fun _ _ _ _=>none) PUnit.unit (fun _ _ _ _=>PUnit.unit) x
def Rk (E:Env) (h:Hf) (e:TypeId) (d s:SV):Option (SV×List Up):=
 ai (E.ty.get e) fun ie=>sel (da ie) (aF (oi d) (iW h ie.size s) fun nd q=>qs d h ie.size (sel (Nat.ble q.1 nd) q.1 nd) q.2) none
def ly (E:Env) (h:Hf) (t:TypeId) (d s:SV):Option (SV×List Up):=ai (E.ty.get t) fun i=>ai (je i.desc) fun e=>Rk E h e d s
def nQ (d:UD):Bool:= @UD.rec (fun _=>Bool) (false) (fun _=>false) (true) (false) (fun _=>false) (fun _ _=>false) (fun _ _=>false) (fun _=>false) (false) (false) (false) d
def w9 (d:UD):Bool:= @UD.rec (fun _=>Bool) (true) (fun _=>false) (false) (false) (fun _=>false) (fun _ _=>false) (fun _ _=>false) (fun _=>false) (false) (false) (false) d
def isLit:SI→Bool
 | .lit _=>true
 |_=>false
def Qp (k:IntKind):UD→Bool
 | .int k'=>bV k k'
 |_=>false
def sM (x:SV):UD→Bool:= @SV.rec (fun _=>UD→Bool) (fun _=>PUnit) (fun _=>fun d=>w9 d) (fun k e=>fun d=>isLit e&&Qp k d) (fun _=>fun d=>nQ d) (fun _ _=>fun _=>false) (fun _=>false) (fun _ _ _ _=>fun _=>false) (fun _=>false) (fun _=>false) (fun _=>fun _=>false) (fun _=>false) (fun _ _ _ _ _=>fun _=>false) (fun _=>fun _=>false) (fun _=>false) (fun _ _ _=>fun _=>false) (fun _=>false) (fun _ _=>fun _=>false) (fun _ _=>fun _=>false) (fun _=>false) PUnit.unit (fun _ _ _ _=>PUnit.unit) x
def aas:SI→SI→Option Bool
 | .lit a,.lit b=>some (r7 a b)
 |_,_=>none
def sameKey (x:SV):SV→Option Bool:= @SV.rec (fun _=>SV→Option Bool) (fun _=>PUnit) (fun a=>fun y=>Xh (.bool a) y) (fun k a=>fun y=>ai (intOf y) fun p=>sel (bV k p.1) (aas a p.2) none) (fun a=>fun y=>eqStr (.str a) y) (fun _ _=>fun _=>none) (fun _=>none) (fun _ _ _ _=>fun _=>none) (fun _=>none) (fun _=>none) (fun _=>fun _=>none) (fun _=>none) (fun _ _ _ _ _=>fun _=>none) (fun _=>fun _=>none) (fun _=>none) (fun _ _ _=>fun _=>none) (fun _=>none) (fun _ _=>fun _=>none) (fun _ _=>fun _=>none) (fun _=>none) PUnit.unit (fun _ _ _ _=>PUnit.unit) x
def iw (k:SV):List (SV×SV×Nat)→Nat→Option (Option (Nat×SV×Nat))
 | [],_=>some none
 |e::es,i=>
  match sameKey k e.1 with
  |some true=>some (some (i,e.2.1,e.2.2))
  |some false=>iw k es (Nat.add i 1)
  |none=>none
def ji:Option SO→Option (List (SV×SV×Nat)×Nat)
 |some (.map es c)=>some (es,c)
 |_=>none
def KA (x:SV):Hf→Option (List (SV×SV×Nat)):= @SV.rec (fun _=>Hf→Option (List (SV×SV×Nat))) (fun _=>PUnit) (fun _=>fun _=>none) (fun _ _=>fun _=>none) (fun _=>fun _=>none) (fun _ _=>fun _=>none) (fun _=>none) (fun _ _ _ _=>fun _=>none) (fun _=>none) (fun _=>none) (fun i=>fun h=>ai (ji (h i)) fun p=>some p.1) (fun _=>some []) (fun _ _ _ _ _=>fun _=>none) (fun _=>fun _=>none) (fun _=>none) (fun _ _ _=>fun _=>none) (fun _=>none) (fun _ _=>fun _=>none) (fun _ _=>fun _=>none) (fun _=>none) PUnit.unit (fun _ _ _ _=>PUnit.unit) x
def okV (ok:Bool) (v:SV) (b:Bool):SV:=sel ok (.tup [v,.bool b]) v
def vP (ok:Bool) (z:Option SV):Option (Nat×SV×Nat)→Option SV
 |some r=>some (okV ok r.2.1 true)
 |none=>ai z fun z=>some (okV ok z false)
def pZ (d:UD):Option (TypeId×TypeId):= @UD.rec (fun _=>Option (TypeId×TypeId)) (none) (fun _=>none) (none) (none) (fun _=>none) (fun _ _=>none) (fun k e=>some (k,e)) (fun _=>none) (none) (none) (none) d
def jW (E:Env) (h:Hf) (t:TypeId) (x k:SV) (ok:Bool):Option SV:=
 ai (E.ty.get t) fun i=>ai (pZ i.desc) fun q=>aF (E.ty.get q.1) (E.ty.get q.2) fun ik ie=>sel (sM k ik.desc) (ai (KA x h) fun es=>ai (iw k es 0) fun r=>vP ok (cO ie ie.zero 0) r) none
def CA (es:List (SV×SV×Nat)) (c:Nat) (k v:SV):Option (Nat×SV×Nat)→SO
 |some r=>.map (es.set r.1 (k,v,r.2.2)) c
 |none=>.map (es++ [(k,v,c)]) (Nat.add c 1)
def lA (E:Env) (h:Hf) (t:TypeId) (x k v:SV):Option (List Up):=
 ai (YH x) fun id=>ai (E.ty.get t) fun i=>ai (pZ i.desc) fun q=>aF (E.ty.get q.1) (ji (h id)) fun ik p=>sel (sM k ik.desc) (ai (iw k p.1 0) fun r=>some [(id,some (CA p.1 p.2 k v r))]) none
def kQ (n:Nat):SV:=.int .i64 (.lit (.ofNat n))
def YK (x:SV):Hf→Option SV:= @SV.rec (fun _=>Hf→Option SV) (fun _=>PUnit) (fun _=>fun _=>none) (fun _ _=>fun _=>none) (fun _=>fun _=>none) (fun _ _=>fun _=>none) (fun _=>none) (fun _ _ _ _=>fun _=>none) (fun _=>none) (fun _=>none) (fun i=>fun h=>ai (ji (h i)) fun p=>some (kQ p.1.length)) (fun _=>some (kQ 0)) (fun _ _ _ _ _=>fun _=>none) (fun _=>fun _=>none) (fun _=>none) (fun _ _ _=>fun _=>none) (fun _=>none) (fun _ _=>fun _=>none) (fun _ _=>fun _=>none) (fun _=>none) PUnit.unit (fun _ _ _ _=>PUnit.unit) x
def mS (d:UD):SV→Hf→Option SV:= @UD.rec (fun _=>SV→Hf→Option SV) (fun _ _=>none) (fun _=>fun _ _=>none) (fun x _=>ai (strOf x) fun s=>some (kQ s.size)) (fun _ _=>none) (fun _=>fun x _=>ai (oi x) fun n=>some (kQ n)) (fun n _=>fun _ _=>some (kQ n)) (fun _ _=>fun x h=>YK x h) (fun _=>fun _ _=>none) (fun _ _=>none) (fun _ _=>none) (fun _ _=>none) d
def bF (tm:Tf):List Operand→Option (List SV)
 | []=>some []
 |x::xs=>aF (aI tm x) (bF tm xs) fun v l=>some (v::l)
def same (r:Option SV):Option (SV×List Up):=ai r fun v=>some (v,[])
def unit (r:Option (List Up)):Option (SV×List Up):=ai r fun us=>some (.tup [],us)
def one (tm:Tf) (x:Operand) (f:SV→Option (SV×List Up)):Option (SV×List Up):=ai (aI tm x) f
def two (tm:Tf) (x y:Operand) (f:SV→SV→Option (SV×List Up)):Option (SV×List Up):=aF (aI tm x) (aI tm y) f
def Dk (E:Env) (new:Nat) (e:TypeId):Option (SV×List Up):=ai (E.ty.get e) fun i=>some (.ptr new 0,[(new,some (.cells e i.zero))])
def wV (new:Nat) (e:TypeId) (v:SV):Option (SV×List Up):=ai v.cells fun cs=>some (.ptr new 0,[(new,some (.cells e cs))])
def hX (E:Env) (new:Nat) (t:TypeId) (len:Nat) (pcs:List (Nat×List SV)):Option (SV×List Up):=
 ai (E.ty.get t) fun i=>ai (je i.desc) fun e=>ai (E.ty.get e) fun ie=>
  sel (da ie&&Nat.ble (Nat.mul len ie.size) 16777216) (ai (fT (jh ie.size) (rep ie.zero len) pcs) fun cs=>some (.sl new 0 len (.k len),[(new,some (.cells e cs))])) none
def ny (d:UD):Bool:= @UD.rec (fun _=>Bool) (false) (fun _=>false) (false) (false) (fun _=>false) (fun _ _=>false) (fun _ _=>false) (fun _=>false) (false) (true) (false) d
def Ar (E:Env) (t:TypeId) (v:SV):Option (SV×List Up):=ai (E.ty.get t) fun i=>sel (ny i.desc) none (some (.ifc t v,[]))
def Dp:Fn→Bool
 | .func _=>true
 |_=>false
def afq (tm:Tf) (f:Fn) (a c:List Operand):Option (SV×List Up):=sel (Dp f) (aF (bF tm a) (bF tm c) fun l m=>some (.fn f l m,[])) none
def Ay (new:Nat):Option (SV×List Up):=some (.mp new,[(new,some (.map [] 0))])
def ahA (E:Env) (tm:Tf) (new:Nat) (t:TypeId):Option Operand→Option (SV×List Up)
 |none=>Ay new
 |some x=>aF (E.ty.get t) (aI tm x) fun i v=>aF (pZ i.desc) (eX v) fun _ _=>Ay new
def pR (E:Env) (new:Nat) (t:TypeId) (l c:Nat):Option (SV×List Up):=
 ai (E.ty.get t) fun i=>ai (je i.desc) fun e=>ai (E.ty.get e) fun ie=>
  sel (Nat.ble l c&&(Nat.ble c 1000000&&da ie)) (some (.sl new 0 l (.k c),[(new,some (.cells e (rep ie.zero c)))])) none
def mE (d:UD):Option (List FL):= @UD.rec (fun _=>Option (List FL)) (none) (fun _=>none) (none) (none) (fun _=>none) (fun _ _=>none) (fun _ _=>none) (fun fs=>some fs) (none) (none) (none) d
def iQ (E:Env) (s:TypeId) (f:Nat) (v:SV):Option (SV×List Up):=
 aF (E.ty.get s) (lp v) fun i p=>ai (mE i.desc) fun fs=>ai (fs[f]?) fun fl=>ai (E.ty.get fl.type) fun fi=>sel (Nat.ble 1 fi.size) (some (.ptr p.1 (Nat.add p.2 fl.off),[])) none
def mO (E:Env) (t:TypeId) (f:Nat) (v:SV):Option (SV×List Up):=
 aF (E.ty.get t) (ur v) fun i cs=>ai (mE i.desc) fun fs=>ai (fs[f]?) fun fl=>ai (E.ty.get fl.type) fun fi=>same (cO fi cs fl.off)
def afF (d:UD):Env→Nat→SV→Option (SV×List Up):= @UD.rec (fun _=>Env→Nat→SV→Option (SV×List Up)) (fun _ _ _=>none) (fun _=>fun _ _ _=>none) (fun _ k v=>ai (strOf v) fun s=>ai (s.data.toList[k]?) fun b=>some (.int .u8 (.lit (.ofNat b.toNat)),[])) (fun _ _ _=>none) (fun _=>fun _ _ _=>none) (fun n e=>fun E k v=>aF (ur v) (E.ty.get e) fun cs ie=>sel (Nat.ble (Nat.succ k) n) (same (cO ie cs (Nat.mul k ie.size))) none) (fun _ _=>fun _ _ _=>none) (fun _=>fun _ _ _=>none) (fun _ _ _=>none) (fun _ _ _=>none) (fun _ _ _=>none) d
def jV (E:Env) (t:TypeId) (k:Nat) (v:SV):Option (SV×List Up):=ai (E.ty.get t) fun i=>afF i.desc E k v
def afm (x:SV):Hf→Option SO:= @SV.rec (fun _=>Hf→Option SO) (fun _=>PUnit) (fun _=>fun _=>none) (fun _ _=>fun _=>none) (fun _=>fun _=>none) (fun _ _=>fun _=>none) (fun _=>none) (fun _ _ _ _=>fun _=>none) (fun _=>none) (fun _=>none) (fun i=>fun h=>ai (ji (h i)) fun p=>some (.mapIter (some i) p.2 [] p.2)) (fun _=>some (.mapIter none 0 [] 0)) (fun _ _ _ _ _=>fun _=>none) (fun _=>fun _=>none) (fun _=>none) (fun _ _ _=>fun _=>none) (fun _=>none) (fun _ _=>fun _=>none) (fun _ _=>fun _=>none) (fun _=>none) PUnit.unit (fun _ _ _ _=>PUnit.unit) x
def vl (d:UD) (v:SV) (h:Hf):Option SO:=
 match d with
 | .string=>ai (strOf v) fun s=>some (.gm s 0)
 | .map _ _=>afm v h
 |_=>none
def lT (E:Env) (h:Hf) (new:Nat) (t:TypeId) (v:SV):Option (SV×List Up):=ai (E.ty.get t) fun i=>ai (vl i.desc v h) fun o=>some (.ptr new 0,[(new,some o)])
def rj:Option SO→Option (ByteArray×Nat)
 |some (.gm s p)=>some (s,p)
 |_=>none
def lP (v:SV):Option Nat:=ai (lp v) fun q=>sel (Nat.beq q.2 0) (some q.1) none
def iC (id:Nat) (p:ByteArray×Nat):SV×List Up:=
 sel (Nat.ble (Nat.succ p.2) p.1.size) (.tup [.bool true,kQ p.2,.int .i32 (.lit (Utf8.decode p.1 p.2).1)],[(id,some (.gm p.1 (Nat.add p.2 (Utf8.decode p.1 p.2).2)))]) (.tup [.bool false],[])
def ma (h:Hf) (isS:Bool) (v:SV):Option (SV×List Up):=sel isS (ai (lP v) fun id=>ai (rj (h id)) fun p=>some (iC id p)) none
def ua (i:TI) (ok:Bool):Option SV:=sel ok (ai (cO i i.zero 0) fun z=>some (.tup [z,.bool false])) none
def asserted (x:SV):TypeId→TI→Bool→Option SV:= @SV.rec (fun _=>TypeId→TI→Bool→Option SV) (fun _=>PUnit) (fun _=>fun _ _ _=>none) (fun _ _=>fun _ _ _=>none) (fun _=>fun _ _ _=>none) (fun _ _=>fun _ _ _=>none) (fun _ _ _=>none) (fun _ _ _ _=>fun _ _ _=>none) (fun _ _ _=>none) (fun _ _ _=>none) (fun _=>fun _ _ _=>none) (fun _ _ _=>none) (fun _ _ _ _ _=>fun _ _ _=>none) (fun _=>fun _ _ _=>none) (fun _ _ _=>none) (fun t2 u _=>fun t i ok=>sel (Nat.beq t2 t) (some (okV ok u true)) (ua i ok)) (fun _ i ok=>ua i ok) (fun _ _=>fun _ _ _=>none) (fun _ _=>fun _ _ _=>none) (fun _ _ _=>none) PUnit.unit (fun _ _ _ _=>PUnit.unit) x
def pS (E:Env) (t:TypeId) (ok:Bool) (v:SV):Option (SV×List Up):=ai (E.ty.get t) fun i=>sel (ny i.desc) none (same (asserted v t i ok))
def yV (E:Env) (mx:Bool) (x y:SV):Option SV:=aF (intOf x) (intOf y) fun a b=>ai (sel mx (ltI E a.2 b.2) (ltI E b.2 a.2)) fun r=>some (.int a.1 (sel r b.2 a.2))
def j0:UD→Bool
 | .slice _=>true
 | .string=>true
 |_=>false
def jo {α:Type}:List α→Option (α×α)
 | [a,b]=>some (a,b)
 |_=>none
def gd (E:Env) (h:Hf) (new:Nat) (b:Builtin) (aa:List SV) (ts:List TypeId):Option (SV×List Up):=
 match b with
 | .len=>aF aa.head? ts.head? fun x t=>sel (Nat.beq aa.length 1) (ai (E.ty.get t) fun i=>same (mS i.desc x h)) none
 | .append=>aF (jo aa) (jo ts) fun p q=>ai (E.ty.get q.2) fun i=>sel (j0 i.desc) (fC E h new q.1 p.1 p.2) none
 | .copy=>aF (jo aa) ts.head? fun p t=>ly E h t p.1 p.2
 | .min=>ai (jo aa) fun p=>same (yV E false p.1 p.2)
 | .max=>ai (jo aa) fun p=>same (yV E true p.1 p.2)
 |_=>none
def fJ (E:Env) (tm:Tf) (h:Hf) (new:Nat) (c:Call):Option (SV×List Up):=
 match c.callee with
 | .builtin b=>ai (bF tm c.args.toList) fun aa=>gd E h new b aa c.argTypes.toList
 |_=>none
def opD (o:Op):Env→Tf→Hf→Nat→Option (SV×List Up):= @Op.rec (fun _=>Env→Tf→Hf→Nat→Option (SV×List Up)) (fun x=>fun _ tm h _=>one tm x fun v=>some (v,[])) (fun x=>fun _ tm h _=>one tm x fun v=>some (v,[])) (fun c x y=>fun _ tm h _=>ai (aI tm c) fun v=>ai (il v) fun b=>one tm (sel b x y) fun v=>some (v,[])) (fun e=>fun E _ h new=>Dk E new e) (fun e x=>fun _ tm h new=>one tm x (wV new e)) (fun t parts=>fun E tm h _=>ai (ep tm parts.toList) fun pcs=>same (nZ E t pcs)) (fun t len parts=>fun E tm h new=>ai (ep tm parts.toList) fun pcs=>hX E new t len pcs) (fun t m k x=>fun E tm h _=>two tm m k fun a b=>one tm x fun c=>unit (lA E h t a b c)) (fun t x=>fun E tm h _=>one tm x fun v=>same (iJ E h t v)) (fun t x y=>fun E tm h _=>two tm x y fun a v=>unit (jb E h t v a)) (fun _=>fun _ _ _ _=>none) (fun _=>fun _ _ _ _=>none) (fun x=>fun _ tm h _=>one tm x fun v=>same (Av v)) (fun op t x y _=>fun E tm h _=>two tm x y fun v u=>same (sj E op t x y v u)) (fun op _ x=>fun _ tm h _=>one tm x fun v=>same (unA op v)) (fun s d x=>fun E tm h _=>one tm x fun v=>same (Br E s d v)) (fun _ _=>fun _ _ _ _=>none) (fun t x=>fun E tm h _=>one tm x (Ar E t)) (fun f a c=>fun _ tm h _=>afq tm f a.toList c.toList) (fun t r=>fun E tm h new=>ahA E tm new t r) (fun _ _=>fun _ _ _ _=>none) (fun t l c=>fun E tm h new=>two tm l c fun u v=>aF (eX u) (eX v) (pR E new t)) (fun t x lo hi mx=>fun E tm h _=>one tm x fun v=>o7 (dv tm lo) (dv tm hi) (dv tm mx) fun l u m=>same (pL E t v l u m)) (fun s x f=>fun E tm h _=>one tm x (iQ E s f)) (fun t x f=>fun E tm h _=>one tm x (mO E t f)) (fun t x ix=>fun E tm h _=>two tm x ix fun v u=>ai (eX u) fun k=>same (gQ E t v k)) (fun t x ix=>fun E tm h _=>two tm x ix fun v u=>ai (eX u) fun k=>jV E t k v) (fun t x k ok=>fun E tm h _=>two tm x k fun a b=>same (jW E h t a b ok)) (fun t m k x=>fun E tm h _=>two tm m k fun a b=>one tm x fun c=>unit (lA E h t a b c)) (fun _ _ _=>fun _ _ _ _=>none) (fun _ _ _ _=>fun _ _ _ _=>none) (fun t x=>fun E tm h new=>one tm x (lT E h new t)) (fun it isS=>fun _ tm h _=>one tm it (ma h isS)) (fun _=>fun _ _ _ _=>none) (fun x _ t ok=>fun E tm h _=>one tm x (pS E t ok)) (fun x i=>fun _ tm h _=>one tm x fun v=>ai (zN v) fun vs=>same (vs[i]?)) (fun c=>fun E tm h new=>fJ E tm h new c) (fun _=>fun _ _ _ _=>none) (fun _=>fun _ _ _ _=>none) (fun _=>fun _ _ _ _=>none) (fun _ _=>fun _ _ _ _=>none) (fun _ _ _=>fun _ _ _ _=>none) (fun _ _=>fun _ _ _ _=>none) o
def opA (E:Env) (op:Op) (tm:Tf) (h:Hf) (new:Nat):Option (SV×List Up):=opD op E tm h new
inductive Ex where
 |normal|exit (id:Nat)|ret|pan (v:SV)
 deriving Inhabited
def setArgs (vs:List SV):Nat→Tr SV→Tr SV:= @List.rec SV (fun _=>Nat→Tr SV→Tr SV) (fun _ t=>t) (fun v _ ih i t=>ih (Nat.add i 1) (t.set i (some v))) vs
def nL (nt:Nat) (tm:Tr SV):List Nat→List SV→Option (Tr SV)
 | [],[]=>some tm
 |p::ps,v::vs=>sel (Nat.ble (Nat.succ p) nt) (nL nt (tm.set p (some v)) ps vs) none
 |_,_=>none
def aY (tm:Tr SV) (d:Option Nat) (v:SV):Tr SV:= @Option.rec Nat (fun _=>Tr SV) tm (fun d=>tm.set d (some v)) d
def bX (nt:Nat) (d:Option Nat):Bool:= @Option.rec Nat (fun _=>Bool) true (fun d=>Nat.ble (Nat.succ d) nt) d
def aho (x:SV):Bool→Option Bool:= @SV.rec (fun _=>Bool→Option Bool) (fun _=>PUnit) (fun b=>fun want=>some (b==want)) (fun _ _=>fun _=>none) (fun _=>fun _=>none) (fun _ _=>fun _=>none) (fun _=>none) (fun _ _ _ _=>fun _=>none) (fun _=>none) (fun _=>none) (fun _=>fun _=>none) (fun _=>none) (fun _ _ _ _ _=>fun _=>none) (fun _=>fun _=>none) (fun _=>none) (fun _ _ _=>fun _=>none) (fun _=>none) (fun _ _=>fun _=>none) (fun _ _=>fun _=>some false) (fun _=>none) PUnit.unit (fun _ _ _ _=>PUnit.unit) x
def OQ (want:Bool) (x:SV):Option Bool:=aho x want
def pX (l:List Oper):Nat→Option Nat:= @List.rec Oper (fun _=>Nat→Option Nat) (fun _=>none) (fun o _ ih j=> @Nat.rec (fun _=>Option Nat) o.dst (fun k _=>ih k) j) l
def lQ (ops:List Oper) (tm:Tf) (j:Nat) (want:Bool):Option Bool:= @Option.rec Nat (fun _=>Option Bool) (some false) (fun t=>ai (tm t) (OQ want)) (pX ops j)
def bG (ops:List Oper) (o:Oper) (tm:Tf):Option Bool:= @Option.rec (Nat×Bool) (fun _=>Option Bool) (some true) (fun g=>lQ ops tm g.1 g.2) o.guard
def Af (E:Env) (tm:Tf) (h:Hf):ResultVar→Option SV
 | .tmp t=>tm t
 | .cell t ty=>ai (tm t) (iJ E h ty)
def gx (E:Env) (tm:Tf) (h:Hf):List ResultVar→Option (List SV)
 | []=>some []
 |r::rs=>aF (Af E tm h r) (gx E tm h rs) fun v l=>some (v::l)
def oneOf:List SV→SV
 | [v]=>v
 |vs=>.tup vs
def pG:List UInt8→List UInt8→Bool
 | [],[]=>false
 | [],_::_=>true
 |_::_,[]=>false
 |a::l,b::m=>sel (Nat.ble (Nat.succ a.toNat) b.toNat) true (sel (Nat.beq a.toNat b.toNat) (pG l m) false)
def cpB:Cp→Cp→Bool
 | .k a,.k b=>Nat.beq a b
 | .u a,.u b=>Nat.beq a b
 |_,_=>false
def qu (a b:ByteArray):Int:=sel (pG a.data.toList b.data.toList) (-1) (sel (jS a.data.toList b.data.toList) 0 1)
structure Rc where
 i:Nat
 call:Bool
 rd:List Nat
 wr:List Nat
 lo:Nat
 hi:Nat
inductive Dm where
 |mark (d:Nat)
 |fn (k:FuncId) (args cf:List SV)
inductive Job where
 |code (nt:Nat) (c:Code) (tm:Tr SV) (mk:List Dm) (h:Hs)
 |ops (nt:Nat) (all l:List Oper) (tm:Tr SV) (mk:List Dm) (h:Hs)
 |draw (nt W:Nat) (all:List Oper) (base i M:Nat) (prev:List Rc) (l:List Oper) (tm:Tr SV) (h:Hs)
 |call (f:SV) (args:List SV) (h:Hs)
structure Oc where
 e:Ex
 tm:Tr SV
 dm:List Dm
 h:Hs
structure Rs where
 pan:Bool
 v:SV
 h:Hs
inductive Out where
 |aQ (l:List Oc)
 |st (tm:Tr SV) (h:Hs)
 |bN (l:List Rs)
 |fail (why:String)
 |gM (k:Nat) (args:List SV) (h:Hs)
 deriving Inhabited
abbrev Out.code (e:Ex) (tm:Tr SV) (mk:List Dm) (h:Hs):Out:=.aQ [⟨e,tm,mk,h⟩]
abbrev Out.res (v:SV) (h:Hs):Out:=.bN [⟨false,v,h⟩]
abbrev Out.pan (v:SV) (h:Hs):Out:=.bN [⟨true,v,h⟩]
def Le:Out→Out→Out
 | .aQ a,.aQ b=>.aQ (a++b)
 | .bN a,.bN b=>.bN (a++b)
 | .fail s,_=>.fail s
 |_,.fail s=>.fail s
 |_,_=>.fail "app"
def lM {α:Type} (k:α→Out) (l:List α):Out:=
 @List.rec α (fun _=>Out) (.fail "no way") (fun o l ih=> @List.rec α (fun _=>Out) (k o) (fun _ _ _=>Le (k o) ih) l) l
def pU (r:Out) (k:Ex→Tr SV→List Dm→Hs→Out):Out:= @Out.rec (fun _=>Out) (fun l=>lM (fun o=>k o.e o.tm o.dm o.h) l) (fun _ _=>.fail "onCode") (fun _=>.fail "onCode") (fun s=>.fail s) (fun a b c=>.gM a b c) r
def stK (r:Out) (kc:Ex→Tr SV→List Dm→Hs→Out) (k:Tr SV→Hs→Out):Out:= @Out.rec (fun _=>Out) (fun l=>lM (fun o=>kc o.e o.tm o.dm o.h) l) k (fun _=>.fail "stK") (fun s=>.fail s) (fun a b c=>.gM a b c) r
def Dd (r:Out) (k kp:SV→Hs→Out):Out:= @Out.rec (fun _=>Out) (fun _=>.fail "resK") (fun _ _=>.fail "resK") (fun l=>lM (fun r=>sel r.pan (kp r.v r.h) (k r.v r.h)) l) (fun s=>.fail s) (fun a b c=>.gM a b c) r
def one1 (l:List Rs) (k:Rs→Out):Out:= @List.rec Rs (fun _=>Out) (.fail "no way") (fun r l _=> @List.rec Rs (fun _=>Out) (k r) (fun _ _ _=>.fail "many ways") l) l
def Dl (r:Out) (k kp:SV→Hs→Out):Out:= @Out.rec (fun _=>Out) (fun _=>.fail "oneK") (fun _ _=>.fail "oneK") (fun l=>one1 l fun r=>sel r.pan (kp r.v r.h) (k r.v r.h)) (fun s=>.fail s) (fun a b c=>.gM a b c) r
def seqE (e:Ex) (tm:Tr SV) (mk:List Dm) (h:Hs) (k:Tr SV→List Dm→Hs→Out):Out:= @Ex.rec (fun _=>Out) (k tm mk h) (fun id=>.code (.exit id) tm mk h) (.code .ret tm mk h) (fun v=>.code (.pan v) tm mk h) e
def rU (r:Out) (k:Tr SV→List Dm→Hs→Out):Out:=pU r fun e tm mk h=>seqE e tm mk h k
def leave (id:Nat) (e:Ex):Ex:= @Ex.rec (fun _=>Ex) .normal (fun id'=>sel (Nat.beq id' id) .normal (.exit id')) .ret (fun v=>.pan v) e
def BA (id:Nat) (r:Out):Out:=pU r fun e tm mk h=>.code (leave id e) tm mk h
def Bt (v:Option SV) (a b:Out):Out:= @Option.rec Bool (fun _=>Out) (.fail "cond") (fun c=>sel c a b) (ai v il)
def acy (j:Option Code) (tm:Tr SV) (mk:List Dm) (h:Hs):Out:=
 match j with
 |none=>.code .normal tm mk h
 |some c=>(match c with| .ret=>.code .ret tm mk h| .exit id=>.code (.exit id) tm mk h|_=>.fail "pending")
def Dr:LoopState→Bool
 | .busy=>false
 |_=>true
def zp (l d:Nat) (tm:Tr SV) (mk:List Dm) (h:Hs):Out:=
 match h.hp.get l with
 |some (.loop nt tm0 ps aa bo st hJ dd)=>sel (Dr st) (acy hJ tm (.mark d::mk) (h.put l (.loop nt tm0 ps aa bo .exhausted hJ dd))) (.fail "loop busy")
 |_=>.fail "loop lost"
def ic (nt:Nat) (tm:Tr SV) (ps:List Nat) (assign body:Code) (h:Hs):Hs:=
 ⟨(h.hp.set h.nx (some .dfr)).set (Nat.add h.nx 1) (some (.loop nt tm ps assign body .ready none h.nx)),Nat.add h.nx 2,h.lg⟩
def tW (E:Env):SV→Bool
 | .fn (.func k) _ _=> @Option.rec Func (fun _=>Bool) false (fun fn=>fn.body.isSome) (E.fn.get k)
 |_=>false
def Ja (E:Env) (rec:Job→Out) (nt:Nat) (g:Option SV) (ps:List Nat) (assign body:Code) (tm:Tr SV) (mk:List Dm) (h:Hs):Out:=
 match g with
 |some g=>sel (tW E g) (Dl (rec (.call g [.yld (Nat.add h.nx 1)] (ic nt tm ps assign body h))) (fun _ h2=>zp (Nat.add h.nx 1) h.nx tm mk h2) fun _ _=>.fail "panic in a range") (.fail "rangeFunc")
 |none=>.fail "rangeFunc"
def acS (c:Code):Env→(Job→Out)→Nat→Tr SV→List Dm→Hs→Out:= @Code.rec (fun _=>Env→(Job→Out)→Nat→Tr SV→List Dm→Hs→Out)
 (fun _ _ _ tm mk h=>.code .normal tm mk h)
 (fun _ ops draw _ rec nt tm mk h=>sel draw (stK (rec (.draw nt ops.size ops.toList h.nx 0 0 [] ops.toList tm ⟨h.hp,Nat.add h.nx ops.size,h.lg⟩)) (fun e tm' _ h'=>.code e tm' mk h') fun tm' h'=>.code .normal tm' mk h') (rec (.ops nt ops.toList ops.toList tm mk h)))
 (fun a b _ _ _ rec nt tm mk h=>rU (rec (.code nt a tm mk h)) fun tm' mk' h'=>rec (.code nt b tm' mk' h'))
 (fun c a b _ _ _ rec nt tm mk h=>Bt (aI tm.get c) (rec (.code nt a tm mk h)) (rec (.code nt b tm mk h)))
 (fun id c _ _ rec nt tm mk h=>BA id (rec (.code nt c tm mk h)))
 (fun c _ _ rec nt tm mk h=>rU (rec (.code nt c tm mk h)) fun tm' mk' h'=>rec (.code nt (.loop c) tm' mk' h'))
 (fun f ps aa bo _ _ E rec nt tm mk h=>Ja E rec nt (aI tm.get f) ps.toList aa bo tm mk h)
 (fun id _ _ _ tm mk h=>.code (.exit id) tm mk h)
 (fun _ _ _ _ _ _ _ _=>.fail "scope")
 (fun _ _ _ _ _ _ _=>.fail "label")
 (fun _ _ _ _ _ _ _=>.fail "goto")
 (fun _ _ _ tm mk h=>.code .ret tm mk h)
 (fun _ _ _ _ _ _ _=>.fail "refuse") c
def eW (tm:Tf):Callee→Option SV
 | .value x=>aI tm x
 |_=>none
def isValue:Callee→Bool
 | .value _=>true
 |_=>false
def dx (o:Op):Option Call:= @Op.rec (fun _=>Option Call) (fun _=>none) (fun _=>none) (fun _ _ _=>none) (fun _=>none) (fun _ _=>none) (fun _ _=>none) (fun _ _ _=>none) (fun _ _ _ _=>none) (fun _ _=>none) (fun _ _ _=>none) (fun _=>none) (fun _=>none) (fun _=>none) (fun _ _ _ _ _=>none) (fun _ _ _=>none) (fun _ _ _=>none) (fun _ _=>none) (fun _ _=>none) (fun _ _ _=>none) (fun _ _=>none) (fun _ _=>none) (fun _ _ _=>none) (fun _ _ _ _ _=>none) (fun _ _ _=>none) (fun _ _ _=>none) (fun _ _ _=>none) (fun _ _ _=>none) (fun _ _ _ _=>none) (fun _ _ _ _=>none) (fun _ _ _=>none) (fun _ _ _ _=>none) (fun _ _=>none) (fun _ _=>none) (fun _=>none) (fun _ _ _ _=>none) (fun _ _=>none) (fun c=>sel (isValue c.callee) (some c) none) (fun _=>none) (fun _=>none) (fun _=>none) (fun _ _=>none) (fun _ _ _=>none) (fun _ _=>none) o
def tI (x:Nat):List Nat→Bool
 | []=>false
 |y::l=>sel (Nat.beq x y) true (tI x l)
def lX (o:Op):Option Call:= @Op.rec (fun _=>Option Call) (fun _=>none) (fun _=>none) (fun _ _ _=>none) (fun _=>none) (fun _ _=>none) (fun _ _=>none) (fun _ _ _=>none) (fun _ _ _ _=>none) (fun _ _=>none) (fun _ _ _=>none) (fun _=>none) (fun _=>none) (fun _=>none) (fun _ _ _ _ _=>none) (fun _ _ _=>none) (fun _ _ _=>none) (fun _ _=>none) (fun _ _=>none) (fun _ _ _=>none) (fun _ _=>none) (fun _ _=>none) (fun _ _ _=>none) (fun _ _ _ _ _=>none) (fun _ _ _=>none) (fun _ _ _=>none) (fun _ _ _=>none) (fun _ _ _=>none) (fun _ _ _ _=>none) (fun _ _ _ _=>none) (fun _ _ _=>none) (fun _ _ _ _=>none) (fun _ _=>none) (fun _ _=>none) (fun _=>none) (fun _ _ _ _=>none) (fun _ _=>none) (fun _=>none) (fun _=>none) (fun c=>sel (isValue c.callee) (some c) none) (fun _=>none) (fun _ _=>none) (fun _ _ _=>none) (fun _ _=>none) o
def kG (o:Op):Option Operand:= @Op.rec (fun _=>Option Operand) (fun _=>none) (fun _=>none) (fun _ _ _=>none) (fun _=>none) (fun _ _=>none) (fun _ _=>none) (fun _ _ _=>none) (fun _ _ _ _=>none) (fun _ _=>none) (fun _ _ _=>none) (fun _=>none) (fun _=>none) (fun _=>none) (fun _ _ _ _ _=>none) (fun _ _ _=>none) (fun _ _ _=>none) (fun _ _=>none) (fun _ _=>none) (fun _ _ _=>none) (fun _ _=>none) (fun _ _=>none) (fun _ _ _=>none) (fun _ _ _ _ _=>none) (fun _ _ _=>none) (fun _ _ _=>none) (fun _ _ _=>none) (fun _ _ _=>none) (fun _ _ _ _=>none) (fun _ _ _ _=>none) (fun _ _ _=>none) (fun _ _ _ _=>none) (fun _ _=>none) (fun _ _=>none) (fun _=>none) (fun _ _ _ _=>none) (fun _ _=>none) (fun _=>none) (fun _=>none) (fun _=>none) (fun x=>some x) (fun _ _=>none) (fun _ _ _=>none) (fun _ _=>none) o
def goK (rec:Job→Out) (h:Hs) (f:Option SV) (aa:Option (List SV)) (k kp:SV→Hs→Out):Out:=
 @Option.rec (SV×List SV) (fun _=>Out) (.fail "call") (fun p=>Dd (rec (.call p.1 p.2 h)) k kp) (aF f aa fun f aa=>some (f,aa))
def QL (rec:Job→Out) (h:Hs) (f:Option SV) (aa:Option (List SV)) (k kp:SV→Hs→Out):Out:=
 @Option.rec (SV×List SV) (fun _=>Out) (.fail "call") (fun p=>Dl (rec (.call p.1 p.2 h)) k kp) (aF f aa fun f aa=>some (f,aa))
def jB (rec:Job→Out) (nt:Nat) (all l:List Oper) (tm:Tr SV) (mk:List Dm) (d:Option Nat) (v:SV) (h:Hs):Out:=rec (.ops nt all l (aY tm d v) mk h)
def OS (rec:Job→Out) (nt:Nat) (all l:List Oper) (tm:Tr SV) (mk:List Dm) (h:Hs) (o:Oper) (r:Option (SV×List Up)):Out:=
 @Option.rec (SV×List Up) (fun _=>Out) (.fail o.pos) (fun r=>jB rec nt all l tm mk o.dst r.1 (h.fin r.2)) r
def mb (o:Op):Option (Operand×Bool):= @Op.rec (fun _=>Option (Operand×Bool)) (fun _=>none) (fun _=>none) (fun _ _ _=>none) (fun _=>none) (fun _ _=>none) (fun _ _=>none) (fun _ _ _=>none) (fun _ _ _ _=>none) (fun _ _=>none) (fun _ _ _=>none) (fun _=>none) (fun _=>none) (fun _=>none) (fun _ _ _ _ _=>none) (fun _ _ _=>none) (fun _ _ _=>none) (fun _ _=>none) (fun _ _=>none) (fun _ _ _=>none) (fun _ _=>none) (fun _ _=>none) (fun _ _ _=>none) (fun _ _ _ _ _=>none) (fun _ _ _=>none) (fun _ _ _=>none) (fun _ _ _=>none) (fun _ _ _=>none) (fun _ _ _ _=>none) (fun _ _ _ _=>none) (fun _ _ _=>none) (fun _ _ _ _=>none) (fun _ _=>none) (fun it isS=>sel isS none (some (it,false))) (fun it=>some (it,true)) (fun _ _ _ _=>none) (fun _ _=>none) (fun _=>none) (fun _=>none) (fun _=>none) (fun _=>none) (fun _ _=>none) (fun _ _ _=>none) (fun _ _=>none) o
def tM (seen:List Nat) (es:List (SV×SV×Nat)):List (SV×SV×Nat):=es.filter fun e=> !tI e.2.2 seen
def iterM (since:Nat) (seen:List Nat) (last c:Nat) (es:List (SV×SV×Nat)):Bool:=
 es.all (fun e=>Nat.ble (Nat.succ e.2.2) since)&&Nat.ble since last
def Ni (rec:Job→Out) (nt:Nat) (all l:List Oper) (tm:Tr SV) (mk:List Dm) (h:Hs) (d:Option Nat) (id m since:Nat) (seen:List Nat) (c:Nat) (es:List (SV×SV×Nat)):Out:=
 @List.rec (SV×SV×Nat) (fun _=>Out) (jB rec nt all l tm mk d (.tup [.bool false]) h) (fun _ _ _=>lM (fun e=>jB rec nt all l tm mk d (.tup [.bool true,e.1,e.2.1]) (h.put id (.mapIter (some m) since (seen++ [e.2.2]) c))) (tM seen es)) (tM seen es)
def PY:List Nat→Option Nat
 | []=>none
 | [a]=>some a
 |_::l=>PY l
def FU (b:Nat):List (SV×SV×Nat)→Option SV
 | []=>none
 |e::es=>sel (Nat.beq e.2.2 b) (some (.tup [e.1,e.2.1])) (FU b es)
def sV (h:Hf) (id:Nat):Option SV:=
 match h id with
 |some (.mapIter (some m) since seen last)=>
  (match h m with
  |some (.map es c)=>sel (Nat.beq c last) (ai (PY seen) fun b=>FU b es) none
  |_=>none)
 |_=>none
def Bf (rec:Job→Out) (nt:Nat) (all l:List Oper) (tm:Tr SV) (mk:List Dm) (h:Hs) (d:Option Nat) (r:Option SV):Out:= @Option.rec SV (fun _=>Out) (.fail "entry") (fun v=>jB rec nt all l tm mk d v h) r
def mF (rec:Job→Out) (nt:Nat) (all l:List Oper) (tm:Tr SV) (mk:List Dm) (h:Hs) (d:Option Nat) (id:Nat):Out:=
 match h.hp.get id with
 |some (.mapIter none _ _ _)=>jB rec nt all l tm mk d (.tup [.bool false]) h
 |some (.mapIter (some m) since seen last)=>
  (match h.hp.get m with
  |some (.map es c)=>sel (iterM since seen last c es) (Ni rec nt all l tm mk h d id m since seen c es) (.fail "the map was written")
  |_=>.fail "no map")
 |_=>.fail "no iterator"
def P6 (rec:Job→Out) (nt:Nat) (all l:List Oper) (tm:Tr SV) (mk:List Dm) (h:Hs) (d:Option Nat) (isE:Bool) (v:Option SV):Out:=
 @Option.rec Nat (fun _=>Out) (.fail "next") (fun id=>sel isE (Bf rec nt all l tm mk h d (sV h.hp.get id)) (mF rec nt all l tm mk h d id)) (ai v lP)
def vm (x:SV) (aa:List SV):Option Dm:=
 match x with
 | .fn (.func k) fi ca=>some (.fn k (fi++aa) ca)
 |_=>none
def KK (rec:Job→Out) (nt:Nat) (all l:List Oper) (tm:Tr SV) (mk:List Dm) (h:Hs) (o:Oper) (d:Option Dm):Out:=
 @Option.rec Dm (fun _=>Out) (.fail "defer") (fun d=>jB rec nt all l tm (d::mk) o.dst .undef h) d
def Dh:SV→Option SV
 | .ifc t v=>some (.ifc t v)
 |_=>none
def Ap (tm:Tr SV) (mk:List Dm) (h:Hs) (v:Option SV):Out:= @Option.rec SV (fun _=>Out) (.fail "panic") (fun v=>.code (.pan v) tm mk h) v
def Ae (E:Env) (rec:Job→Out) (nt:Nat) (all l:List Oper) (tm:Tr SV) (mk:List Dm) (h:Hs) (o:Oper) (it:Option (Operand×Bool)):Out:=
 @Option.rec (Operand×Bool) (fun _=>Out) (OS rec nt all l tm mk h o (opA E o.op tm.get h.hp.get h.nx)) (fun x=>P6 rec nt all l tm mk h o.dst x.2 (aI tm.get x.1)) it
def FB (E:Env) (rec:Job→Out) (nt:Nat) (all l:List Oper) (tm:Tr SV) (mk:List Dm) (h:Hs) (o:Oper) (d:Option Call) (p:Option Operand):Out:=
 @Option.rec Call (fun _=>Out) (@Option.rec Operand (fun _=>Out) (Ae E rec nt all l tm mk h o (mb o.op)) (fun x=>Ap tm mk h (ai (aI tm.get x) Dh)) p)
  (fun c=>KK rec nt all l tm mk h o (aF (eW tm.get c.callee) (bF tm.get c.args.toList) vm)) d
def doK (E:Env) (rec:Job→Out) (nt:Nat) (all l:List Oper) (tm:Tr SV) (mk:List Dm) (h:Hs) (o:Oper) (c:Option Call):Out:=
 @Option.rec Call (fun _=>Out) (FB E rec nt all l tm mk h o (lX o.op) (kG o.op)) (fun c=>goK rec h (eW tm.get c.callee) (bF tm.get c.args.toList) (jB rec nt all l tm mk o.dst) fun v h=>.code (.pan v) tm mk h) c
def wI (E:Env) (rec:Job→Out) (nt:Nat) (all l:List Oper) (tm:Tr SV) (mk:List Dm) (h:Hs) (o:Oper) (w:Option Bool):Out:=
 @Option.rec Bool (fun _=>Out) (.fail "wanted") (fun w=>sel w (doK E rec nt all l tm mk h o (dx o.op)) (jB rec nt all l tm mk o.dst (.tup []) h)) w
def Nh (E:Env) (rec:Job→Out) (nt:Nat) (all l:List Oper) (tm:Tr SV) (mk:List Dm) (h:Hs):Out:=
 @List.rec Oper (fun _=>Out) (.code .normal tm mk h) (fun o l _=>sel (bX nt o.dst) (wI E rec nt all l tm mk h o (bG all o tm.get)) (.fail "slot")) l
def force {β:Type} (m:Nat) (f:Nat→β):β:=Nat.rec (f 0) (fun k _=>f (k+1)) m
def dt (o:Oper):List Nat:=(o.after.toList.filter (Region.binds .any ·)).map (·.on)
def fh (W M:Nat):List Nat→Nat
 | []=>0
 |i::ds=>Nat.lor (fh W M ds) (Nat.lor (Nat.shiftLeft 1 i) (Nat.mod (Nat.shiftRight M (Nat.mul i W)) (Nat.pow 2 W)))
def dC (m i:Nat):Bool:=Nat.beq (Nat.land (Nat.shiftRight m i) 1) 1
def cc (x:Nat):List Nat→Bool
 | []=>false
 |y::l=>sel (Nat.beq x y) true (cc x l)
def iO:List Nat→List Nat→Bool
 | [],_=>true
 |x::l,m=>sel (cc x m) false (iO l m)
def pY:List Nat→Bool
 | []=>true
 |_=>false
def jA (lo hi:Nat):List Nat→Bool
 | []=>true
 |x::l=>sel (Nat.ble (Nat.succ x) lo) (jA lo hi l) (sel (Nat.ble hi x) (jA lo hi l) false)
def sQ (p r:Rc):Bool:=
 jA p.lo p.hi r.rd&&(jA p.lo p.hi r.wr&&(jA r.lo r.hi p.rd&&(jA r.lo r.hi p.wr&&(iO p.rd r.wr&&(iO r.rd p.wr&&(iO p.wr r.wr &&
  sel p.call (sel r.call false (pY r.wr)) (sel r.call (pY p.wr) true)))))))
def cT (m:Nat) (r:Rc):List Rc→Bool
 | []=>true
 |p::ps=>sel (dC m p.i) (cT m r ps) (sel (sQ p r) (cT m r ps) false)
def fX (j:Nat):List Nat→Bool
 | []=>true
 |i::l=>sel (Nat.ble (Nat.succ i) j) (fX j l) false
def ey:Option SV→List Nat
 |some (.ptr i _)=> [i]
 |some (.sl i _ _ _)=> [i]
 |some (.mp i)=> [i]
 |_=> []
def iu (tm:Tf):List Operand→List Nat
 | []=> []
 |x::xs=>ey (aI tm x)++iu tm xs
def idM:Option SV→List Nat
 |some (.mp i)=> [i]
 |_=> []
def tO (tm:Tf):List Operand→List Nat
 | []=> []
 |x::xs=>idM (aI tm x)++tO tm xs
def km (c:Call):Bool:=
 match c.callee with
 | .builtin .len=>true
 |_=>false
def eF (op:Op) (tm:Tf):List Nat:=
 match op with
 | .load _ x=>iu tm [x]
 | .store _ x y=>iu tm [x,y]
 | .lookup _ x k _=>iu tm [x,k]
 | .mapUpdate _ m k x=>iu tm [m,k,x]
 | .insert _ m k x=>iu tm [m,k,x]
 | .next it _=>iu tm [it]
 | .range _ x=>iu tm [x]
 | .call c=>sel (km c) (tO tm c.args.toList) (iu tm c.args.toList)
 |_=> []
def gK (new:Nat):List Up→List Nat
 | []=> []
 |u::us=>sel (Nat.beq u.1 new) (gK new us) (u.1::gK new us)
def below (n:Nat):List Nat→List Nat→List Nat
 | [],acc=>acc
 |x::l,acc=>sel (Nat.ble (Nat.succ x) n) (below n l (x::acc)) (below n l acc)
def fF (m:Nat):List Rc→Hp→Hp
 | [],hp=>hp
 |p::ps,hp=>sel (dC m p.i) (fF m ps hp) (fF m ps (hp.set p.lo none))
def eh (m:Nat) (old:Hp):List Rc→Hp→Hp
 | [],hp=>hp
 |p::ps,hp=>sel (dC m p.i) (eh m old ps hp) (eh m old ps (hp.set p.lo (old.get p.lo)))
def jC (rec:Job→Out) (nt W:Nat) (all:List Oper) (base i M m:Nat) (prev:List Rc) (l:List Oper) (tm:Tr SV) (d:Option Nat) (r:Rc) (v:SV) (h:Hs):Out:=
 sel (cT m r prev) (force (Nat.lor M (Nat.shiftLeft m (Nat.mul i W))) fun M'=>rec (.draw nt W all base (Nat.add i 1) M' (r::prev) l (aY tm d v) h)) (.fail "order")
def OT (rec:Job→Out) (nt W:Nat) (all:List Oper) (base i M m:Nat) (prev:List Rc) (l:List Oper) (tm:Tr SV) (h:Hs) (o:Oper) (r:Option (SV×List Up)):Out:=
 @Option.rec (SV×List Up) (fun _=>Out) (.fail o.pos) (fun r=>jC rec nt W all base i M m prev l tm o.dst ⟨i,false,eF o.op tm.get,gK (Nat.add base i) r.2,Nat.add base i,Nat.add (Nat.add base i) 1⟩ r.1 (h.ups r.2)) r
def FE:List Oper→Bool
 | []=>true
 |_=>false
def mQ (m:Nat):Nat→Bool
 |0=>true
 |i+1=>dC m i&&mQ m i
def na (m:Nat):List Rc→Bool
 | []=>true
 |p::ps=>dC m p.i&&na m ps
def doD (E:Env) (rec:Job→Out) (nt W:Nat) (all:List Oper) (base i M m:Nat) (prev:List Rc) (l:List Oper) (tm:Tr SV) (h:Hs) (o:Oper) (c:Option Call):Out:=
 @Option.rec Call (fun _=>Out) (OT rec nt W all base i M m prev l tm h o (opA E o.op tm.get h.hp.get (Nat.add base i)))
  (fun c=>QL rec ⟨fF m prev h.hp,h.nx,[]⟩ (eW tm.get c.callee) (bF tm.get c.args.toList) (fun v h2=>
   jC rec nt W all base i M m prev l tm o.dst ⟨i,true,[],below h.nx h2.lg [],h.nx,h2.nx⟩ v ⟨eh m h.hp prev h2.hp,h2.nx,below h.nx h2.lg h.lg⟩)
   fun v h2=>sel (FE l && (mQ m i && na m prev)) (.code (.pan v) tm [] ⟨h2.hp,h2.nx,below h.nx h2.lg h.lg⟩) (.fail "panic in a drawn region")) c
def Ft (E:Env) (rec:Job→Out) (nt W:Nat) (all:List Oper) (base i M m:Nat) (prev:List Rc) (l:List Oper) (tm:Tr SV) (h:Hs) (o:Oper) (w:Option Bool):Out:=
 @Option.rec Bool (fun _=>Out) (.fail "wanted") (fun w=>sel w (doD E rec nt W all base i M m prev l tm h o (dx o.op)) (jC rec nt W all base i M m prev l tm o.dst ⟨i,false,[],[],Nat.add base i,Nat.add (Nat.add base i) 1⟩ (.tup []) h)) w
def HD (E:Env) (rec:Job→Out) (nt W:Nat) (all:List Oper) (base i M:Nat) (prev:List Rc) (l:List Oper) (tm:Tr SV) (h:Hs):Out:=
 @List.rec Oper (fun _=>Out) (.st tm h) (fun o l _=>sel (bX nt o.dst && fX i (dt o)) (force (Nat.mod (fh W M (dt o)) (Nat.pow 2 W)) fun m=>Ft E rec nt W all base i M m prev l tm h o (bG all o tm.get)) (.fail "slot")) l
def Hx:List Operand→List Nat
 | []=> []
 |x::xs=>(match x with| .tmp t=>t::Hx xs|_=>Hx xs)
def looks (all:List Oper) (o:Oper):List Nat:=Hx o.op.operands.toList++(match o.guard with|some g=>(pX all g.1).toList|none=> [])
def sA (all:List Oper) (p r:Oper):Bool:=iO p.dst.toList (looks all r)&&(iO r.dst.toList (looks all p)&&iO p.dst.toList r.dst.toList)
def pK (all:List Oper) (m:Nat) (r:Oper):Nat→List Oper→Bool
 |_,[]=>true
 |k,p::ps=>sel (dC m k) (pK all m r (Nat.sub k 1) ps) (sel (sA all p r) (pK all m r (Nat.sub k 1) ps) false)
def mJ (W:Nat) (all:List Oper):List Oper→Nat→Nat→List Oper→Bool
 | [],_,_,_=>true
 |o::l,i,M,prev=>force (Nat.mod (fh W M (dt o)) (Nat.pow 2 W)) fun m=>sel (pK all m o (Nat.sub i 1) prev) (force (Nat.lor M (Nat.shiftLeft m (Nat.mul i W))) fun M'=>mJ W all l (Nat.add i 1) M' (o::prev)) false
def codeOk (c:Code):Bool:= @Code.rec (fun _=>Bool) true (fun _ ops draw=>sel draw (mJ ops.size ops.toList ops.toList 0 0 []) true) (fun _ _ a b=>a&&b) (fun _ _ _ a b=>a&&b) (fun _ _ a=>a) (fun _ a=>a) (fun _ _ _ _ a b=>a&&b) (fun _=>true) (fun _ a=>a) (fun _=>true) (fun _=>true) true (fun _=>true) c
def QM (fn:Func):Bool:= @Option.rec Code (fun _=>Bool) true codeOk fn.body
def F3 (e:Ex):Option (Option SV):= @Ex.rec (fun _=>Option (Option SV)) (some none) (fun _=>none) (some none) (fun v=>some (some v)) e
def nR (o:Oper):Bool:=
 match o.op,o.guard with
 | .call c,none=>(match c.callee with| .builtin .recover=>Nat.beq c.args.size 0|_=>false)
 |_,_=>false
def Pt:Option SV→SV
 |none=>.cg
 |some v=>v
def nS (s:String):Bool:=s== "runtime.NumGoroutine"
def YF:List Dm→Bool
 | []=>true
 |_=>false
def qb (e:Ex):Bool:= @Ex.rec (fun _=>Bool) true (fun _=>false) true (fun _=>false) e
def eu (e:Ex):Bool:= @Ex.rec (fun _=>Bool) true (fun _=>false) false (fun _=>false) e
def Rg (E:Env) (rec:Job→Out) (fn:Func) (rest:Code) (r:Out) (k:Hs→Out):Out:=
 pU r fun e tm mk h=>sel (eu e&&YF mk) (pU (rec (.code fn.ntmps rest tm [] h)) fun e2 tm2 mk2 h2=>
  sel (qb e2 && YF mk2) (@Option.rec (List SV) (fun _=>Out) (.fail "results") (fun _=>k h2) (gx E tm2.get h2.hp.get fn.results.toList)) (.fail "deferred")) (.fail "deferred")
def acQ (E:Env) (rec:Job→Out) (fn:Func) (aa:List SV) (u:Option SV) (h:Hs) (all:List Oper) (rest:Code) (k:Hs→Out):Out:=
 @List.rec Oper (fun _=>Out) (.fail "deferred") (fun o l _=>sel (nR o && bX fn.ntmps o.dst) (Rg E rec fn rest (rec (.ops fn.ntmps all l (aY (setArgs aa 0 .nil) o.dst (Pt u)) [] h)) k) (.fail "no recover")) all
def Rj (E:Env) (rec:Job→Out) (fn:Func) (aa:List SV) (u:Option SV) (h:Hs) (k:Hs→Out) (c:Option Code):Out:=
 match c with
 |some (.seq (.region _ ops false) rest)=>sel (Nat.ble aa.length fn.ntmps) (sel (nS fn.name) (.fail "NumGoroutine") (acQ E rec fn aa u h ops.toList rest k)) (.fail "args")
 |_=>.fail "deferred body"
def Ri (E:Env) (rec:Job→Out) (fn:Option Func) (aa:List SV) (u:Option SV) (h:Hs) (k:Hs→Out):Out:= @Option.rec Func (fun _=>Out) (.fail "no function") (fun fn=>Rj E rec fn aa u h k fn.body) fn
def ZK (E:Env) (fn:Func) (tm:Tr SV) (u:Option SV) (h:Hs):Out:=
 @Option.rec SV (fun _=>Out) (@Option.rec (List SV) (fun _=>Out) (.fail fn.name) (fun vs=>.res (oneOf vs) h) (gx E tm.get h.hp.get fn.results.toList)) (fun v=>.pan v h) u
def jk (E:Env) (rec:Job→Out) (fn:Func) (tm:Tr SV):List Dm→Option SV→Hs→Out
 | [],u,h=>ZK E fn tm u h
 | .mark d::mk,u,h=>(match h.hp.get d with|some .dfr=>jk E rec fn tm mk u ⟨h.hp.set d none,h.nx,d::h.lg⟩|_=>.fail "mark")
 | .fn k aa ca::mk,u,h=>Ri E rec (E.fn.get k) (aa++ca) u h fun h'=>jk E rec fn tm mk none h'
def Bq (nx:Nat) (lg:List Nat) (r:Out):Out:=Dd r (fun v h=>.res v ⟨h.hp,h.nx,below nx h.lg lg⟩) fun v h=>.pan v ⟨h.hp,h.nx,below nx h.lg lg⟩
mutual
def svB:SV→SV→Bool
 | .bool a,.bool b=>(sel a b (!b))
 | .int k a,.int k' b=>bV k k'&&a.eqb b
 | .str a,.str b=>pJ a b
 | .ptr a b,.ptr c d=>Nat.beq a c&&Nat.beq b d
 | .cz,.cz=>true
 | .sl a b c d,.sl a' b' c' d'=>Nat.beq a a'&&(Nat.beq b b'&&(Nat.beq c c'&&cpB d d'))
 | .sle,.sle=>true
 | .aR,.aR=>true
 | .mp a,.mp b=>Nat.beq a b
 | .cA,.cA=>true
 | .fn (.func k) a c,.fn (.func k') a' c'=>Nat.beq k k'&&(od a a'&&od c c')
 | .cK,.cK=>true
 | .ifc t v,.ifc t' v'=>Nat.beq t t'&&svB v v'
 | .cg,.cg=>true
 | .agg l,.agg l'=>od l l'
 | .tup l,.tup l'=>od l l'
 |_,_=>false
def od:List SV→List SV→Bool
 | [],[]=>true
 |x::l,y::m=>svB x y&&od l m
 |_,_=>false
end
def xg:List (SV×SV×Nat)→List (SV×SV×Nat)→Bool
 | [],[]=>true
 |x::l,y::m=>svB x.1 y.1&&(svB x.2.1 y.2.1&&(Nat.beq x.2.2 y.2.2&&xg l m))
 |_,_=>false
def soB:Option SO→Option SO→Bool
 |some (.cells e cs),some (.cells e' cs')=>Nat.beq e e'&&od cs cs'
 |some (.map es c),some (.map es' c')=>Nat.beq c c'&&xg es es'
 |_,_=>false
def meet (o:Hp):List Nat→Hp→Hp
 | [],hp=>hp
 |x::l,hp=>sel (soB (hp.get x) (o.get x)) (meet o l hp) (meet o l (hp.set x none))
def tK (a b:Nat):Nat:=sel (Nat.ble a b) b a
def CB (a:Nat):Nat→List Nat
 |0=> []
 |n+1=>a::CB (a+1) n
def ri (nx:Nat) (a b:Rs):Rs:=⟨false,a.v,⟨meet b.h.hp (CB nx (Nat.sub (tK a.h.nx b.h.nx) nx)) (meet b.h.hp (a.h.lg++b.h.lg) a.h.hp),tK a.h.nx b.h.nx,a.h.lg++b.h.lg⟩⟩
def w8 (nx:Nat):Rs→List Rs→Out
 |a,[]=>.bN [a]
 |a,b::l=>sel (a.pan||(b.pan|| !svB a.v b.v)) (.fail "join") (w8 nx (ri nx a b) l)
def P3 (nx:Nat) (l:List Rs):Out:= @List.rec Rs (fun _=>Out) (.fail "no way") (fun a l _=>w8 nx a l) l
def w7 (b:Bool) (nx:Nat) (r:Out):Out:=sel b (@Out.rec (fun _=>Out) (fun _=>.fail "join") (fun _ _=>.fail "join") (fun l=>P3 nx l) (fun s=>.fail s) (fun a b c=>.gM a b c) r) r
def vi (E:Env) (rec:Job→Out) (fn:Func) (nx:Nat) (lg:List Nat) (r:Out):Out:=
 pU r fun e tm mk h=> @Option.rec (Option SV) (fun _=>Out) (.fail "exit") (fun u=>Bq nx lg (jk E rec fn tm mk u h)) (F3 e)
def Ks (fn:Func) (aa:List SV) (h:Hs):Out:=
 match aa with
 | [a,b]=>(match strOf a with|some a=>(match strOf b with|some b=>sel (fn.name== "internal/bytealg.abigen_runtime_cmpstring") (.res (.int .i64 (.lit (qu a b))) h) (.fail fn.name)|_=>.fail fn.name)|_=>.fail fn.name)
 |_=>.fail fn.name
def Bz (E:Env) (rec:Job→Out) (k:Nat) (fn:Func) (aa:List SV) (h:Hs):Out:=
 @Option.rec Code (fun _=>Out) (Ks fn aa h) (fun c=>sel (Nat.ble aa.length fn.ntmps) (sel (nS fn.name) (.fail "NumGoroutine") (w7 (cc k E.join) h.nx (vi E rec fn h.nx h.lg (rec (.code fn.ntmps c (setArgs aa 0 .nil) [] ⟨h.hp,h.nx,[]⟩))))) (.fail "args")) fn.body
def qj (E:Env) (rec:Job→Out) (k:Nat) (fn:Option Func) (aa:List SV) (h:Hs):Out:= @Option.rec Func (fun _=>Out) (.fail "no function") (fun fn=>Bz E rec k fn aa h) fn
def finK (l:Nat) (h:Hs) (j:Option Code):Out:=
 match h.hp.get l with
 |some (.loop nt tm0 ps aa bo st hJ dd)=>.res (.bool j.isNone) (h.put l (.loop nt tm0 ps aa bo (sel j.isNone .ready .done) j dd))
 |_=>.fail "loop gone"
def exJ:Ex→Option Code
 | .normal=>none
 | .ret=>some .ret
 | .exit id=>some (.exit id)
 | .pan _=>none
def abF (e:Ex):Bool:= @Ex.rec (fun _=>Bool) true (fun _=>true) true (fun _=>false) e
def one2 (l:List Oc) (k:Oc→Out):Out:= @List.rec Oc (fun _=>Out) (.fail "no way") (fun r l _=> @List.rec Oc (fun _=>Out) (k r) (fun _ _ _=>.fail "many ways") l) l
def Yx (r:Out) (k:Ex→Tr SV→List Dm→Hs→Out):Out:= @Out.rec (fun _=>Out) (fun l=>one2 l fun o=>k o.e o.tm o.dm o.h) (fun _ _=>.fail "oneC") (fun _=>.fail "oneC") (fun s=>.fail s) (fun a b c=>.gM a b c) r
def I3 (l:Nat) (r:Out):Out:=Yx r fun e _ mk h=>(match mk with| []=>sel (abF e) (finK l h (exJ e)) (.fail "panic in a round")|_=>.fail "marks in a round")
def isReady:LoopState→Bool
 | .ready=>true
 |_=>false
def acW (rec:Job→Out) (l nt:Nat) (bo:Code) (tm:Tr SV) (mk:List Dm) (h:Hs):Out:=
 match h.hp.get l with
 |some (.loop nt' tm0 ps aa bo' st hJ dd)=>(match mk with| []=>sel (isReady st) (I3 l (rec (.code nt bo tm [] (h.put l (.loop nt' tm0 ps aa bo' .busy hJ dd))))) (.fail "not ready")|_=>.fail "marks")
 |_=>.fail "loop gone"
def UI (rec:Job→Out) (l nt:Nat) (aa bo:Code) (tm1:Option (Tr SV)) (h:Hs):Out:=
 match tm1 with
 |none=>.fail "params"
 |some tm1=>Yx (rec (.code nt aa tm1 [] h)) fun e tm mk h1=>sel (eu e) (acW rec l nt bo tm mk h1) (.fail "assign")
def Ho (rec:Job→Out) (l:Nat) (o:Option SO) (aa:List SV) (h:Hs):Out:=
 match o with
 |some (.loop nt tm0 ps as' bo st hJ dd)=>sel (isReady st) (UI rec l nt as' bo (nL nt tm0 ps aa) h) (.fail "yield")
 |_=>.fail "yield"
def ru (k:Nat):List (Nat×SV)→Option SV
 | []=>none
 |p::l=>sel (Nat.beq p.1 k) (some p.2) (ru k l)
def iV (E:Env) (k:Nat) (aa:List SV):Option SV:= @List.rec SV (fun _=>Option SV) (ru k E.done) (fun _ _ _=>none) aa
def isFn:SV→Bool
 | .fn _ _ _=>true
 |_=>false
def aan:SV→Bool
 | .sl _ _ n _=>Nat.ble n 1
 | .aR=>true
 | .sle=>true
 |_=>false
def zP (k:Nat) (t:Nat):List (Nat×Nat)→Bool
 | []=>false
 |p::l=>(Nat.beq p.1 k&&Nat.beq p.2 t)||zP k t l
def fM (E:Env) (k:Nat):List SV→Bool
 | [.ifc t x,y]=>zP k t E.jZ&&(aan x&&isFn y)
 |_=>false
def bU:List (Nat×SO)→Hp→Hp
 | [],h=>h
 |p::l,h=>(bU l h).set p.1 (some p.2)
def inB (h:Hp):List (Nat×SO)→Bool
 | []=>true
 |p::l=>soB (h.get p.1) (some p.2)&&inB h l
mutual
def inS (S:List Nat):SV→Bool
 | .bool _=>true
 | .int _ _=>true
 | .str _=>true
 | .ptr a _=>cc a S
 | .cz=>true
 | .sl a _ _ _=>cc a S
 | .sle=>true
 | .aR=>true
 | .mp a=>cc a S
 | .cA=>true
 | .fn _ a c=>j3 S a&&j3 S c
 | .yld _=>false
 | .cK=>true
 | .ifc _ v=>inS S v
 | .cg=>true
 | .agg l=>j3 S l
 | .tup l=>j3 S l
 | .undef=>false
def j3 (S:List Nat):List SV→Bool
 | []=>true
 |x::l=>inS S x&&j3 S l
end
def y9 (S:List Nat):List (SV×SV×Nat)→Bool
 | []=>true
 |e::l=>(inS S e.1&&inS S e.2.1)&&y9 S l
def inO (S:List Nat):SO→Bool
 | .cells _ cs=>j3 S cs
 | .map es _=>y9 S es
 |_=>false
def y8 (S:List Nat):List (Nat×SO)→Bool
 | []=>true
 |p::l=>inO S p.2&&y8 S l
mutual
def mK (τ:Nat→Nat):SV→SV
 | .bool b=>.bool b
 | .int k e=>.int k e
 | .str s=>.str s
 | .ptr a o=>.ptr (τ a) o
 | .cz=>.cz
 | .sl a o n c=>.sl (τ a) o n c
 | .sle=>.sle
 | .aR=>.aR
 | .mp a=>.mp (τ a)
 | .cA=>.cA
 | .fn f a c=>.fn f (gN τ a) (gN τ c)
 | .yld a=>.yld (τ a)
 | .cK=>.cK
 | .ifc t v=>.ifc t (mK τ v)
 | .cg=>.cg
 | .agg l=>.agg (gN τ l)
 | .tup l=>.tup (gN τ l)
 | .undef=>.undef
def gN (τ:Nat→Nat):List SV→List SV
 | []=> []
 |x::l=>mK τ x::gN τ l
end
def wN (τ:Nat→Nat):List (SV×SV×Nat)→List (SV×SV×Nat)
 | []=> []
 |e::l=>(mK τ e.1,mK τ e.2.1,e.2.2)::wN τ l
def mL (τ:Nat→Nat):SO→SO
 | .cells e cs=>.cells e (gN τ cs)
 | .map es c=>.map (wN τ es) c
 |o=>o
def g9 (τ:Nat→Nat):List (Nat×SO)→List (Nat×SO)
 | []=> []
 |p::l=>(τ p.1,mL τ p.2)::g9 τ l
def sG:SO→Bool
 | .cells _ _=>true
 | .map _ _=>true
 |_=>false
mutual
def Rq:SV→SV→List (Nat×Nat)
 | .ptr a _,.ptr b _=> [(a,b)]
 | .sl a _ _ _,.sl b _ _ _=> [(a,b)]
 | .mp a,.mp b=> [(a,b)]
 | .fn _ a c,.fn _ a' c'=>rC a a'++rC c c'
 | .ifc _ v,.ifc _ v'=>Rq v v'
 | .agg l,.agg l'=>rC l l'
 | .tup l,.tup l'=>rC l l'
 |_,_=> []
def rC:List SV→List SV→List (Nat×Nat)
 |x::l,y::m=>Rq x y++rC l m
 |_,_=> []
end
def acR:List (SV×SV×Nat)→List (SV×SV×Nat)→List (Nat×Nat)
 |x::l,y::m=>Rq x.1 y.1++(Rq x.2.1 y.2.1++acR l m)
 |_,_=> []
def colO:SO→Option SO→List (Nat×Nat)
 | .cells _ cs,some (.cells _ cs')=>rC cs cs'
 | .map es _,some (.map es' _)=>acR es es'
 |_,_=> []
def PS (a:Nat):List (Nat×Nat)→Option Nat
 | []=>none
 |p::l=>sel (Nat.beq p.1 a) (some p.2) (PS a l)
def ahH (a:Nat) (σ:List (Nat×Nat)) (h:Hp) (o:SO):List (Nat×Nat):= @Option.rec Nat (fun _=>List (Nat×Nat)) [] (fun b=>colO o (h.get b)) (PS a σ)
def ZZ (h:Hp):List (Nat×SO)→List (Nat×Nat)→List (Nat×Nat)
 | [],σ=>σ
 |p::l,σ=>ZZ h l (σ++ahH p.1 σ h p.2)
def tau (σ:List (Nat×Nat)) (nx N a:Nat):Nat:=sel (Nat.ble nx a) (Nat.add N (Nat.sub a nx)) ((PS a σ).getD 0)
def Mo.ren (m:Mo) (τ:Nat→Nat) (N:Nat):Mo:=⟨m.k,gN τ m.aa,g9 τ m.inp,N,mK τ m.v,g9 τ m.out,Nat.add N (Nat.sub m.nx' m.nx)⟩
def wg (τ:Nat→Nat) (N:Nat):List (Nat×SO)→Bool
 | []=>true
 |p::l=>Nat.ble (Nat.succ (τ p.1)) N&&wg τ N l
def Bm (τ:Nat→Nat):List (Nat×SO)→Bool
 | []=>true
 |p::l=> !cc (τ p.1) (l.map fun q=>τ q.1)&&Bm τ l
def YE (m:Mo) (τ:Nat→Nat) (N:Nat):Bool:=wg τ N m.inp&&Bm τ m.inp
def acI (m:Mo) (τ:Nat→Nat) (aa:List SV) (h:Hs) (m':Mo):Option Mo:=sel (YE m τ h.nx&&(od aa m'.aa&&inB h.hp m'.inp)) (some m') none
def relM (m:Mo) (τ:Nat→Nat) (aa:List SV) (h:Hs):Option Mo:=acI m τ aa h (m.ren τ h.nx)
def Hu (k:Nat) (aa:List SV) (h:Hs) (m:Mo):Option Mo:=sel (Nat.beq m.k k) (relM m (tau (ZZ h.hp m.inp (rC m.aa aa)) m.nx h.nx) aa h) none
def jr (k:Nat) (aa:List SV) (h:Hs):List Mo→Option Mo
 | []=>none
 |m::l=> @Option.rec Mo (fun _=>Option Mo) (jr k aa h l) (fun m'=>some m') (Hu k aa h m)
def nw (m:Mo) (h:Hs):Hs:=⟨bU m.out h.hp,m.nx',m.out.map (·.1)++h.lg⟩
def fnK (E:Env) (rec:Job→Out) (f:Fn) (aa:List SV) (h:Hs):Out:=
 match f with
 | .func k=> @Option.rec SV (fun _=>Out) (@Option.rec Mo (fun _=>Out) (sel (cc k E.stop) (.gM k aa h) (sel (fM E k aa) (.res (.tup []) h) (qj E rec k (E.fn.get k) aa h))) (fun m=>.res m.v (nw m h)) (jr k aa h E.fE)) (fun v=>.res v h) (iV E k aa)
 |_=>.fail "callee"
def acV (x:SV):Env→(Job→Out)→List SV→Hs→Out:= @SV.rec (fun _=>Env→(Job→Out)→List SV→Hs→Out) (fun _=>PUnit) (fun _=>fun _ _ _ _=>.fail "callee value") (fun _ _=>fun _ _ _ _=>.fail "callee value") (fun _=>fun _ _ _ _=>.fail "callee value") (fun _ _=>fun _ _ _ _=>.fail "callee value") (fun _ _ _ _=>.fail "callee value") (fun _ _ _ _=>fun _ _ _ _=>.fail "callee value") (fun _ _ _ _=>.fail "callee value") (fun _ _ _ _=>.fail "callee value") (fun _=>fun _ _ _ _=>.fail "callee value") (fun _ _ _ _=>.fail "callee value") (fun f first cf _ _=>fun E rec aa h=>fnK E rec f (first++aa++cf) h) (fun l=>fun _ rec aa h=>Ho rec l (h.hp.get l) aa h) (fun _ _ _ _=>.fail "callee value") (fun _ _ _=>fun _ _ _ _=>.fail "callee value") (fun _ _ _ _=>.fail "callee value") (fun _ _=>fun _ _ _ _=>.fail "callee value") (fun _ _=>fun _ _ _ _=>.fail "callee value") (fun _ _ _ _=>.fail "callee value") PUnit.unit (fun _ _ _ _=>PUnit.unit) x
def step (E:Env) (rec:Job→Out) (j:Job):Out:=
 @Job.rec (fun _=>Out) (fun nt c tm mk h=>acS c E rec nt tm mk h) (fun nt all l tm mk h=>Nh E rec nt all l tm mk h) (fun nt W all base i M prev l tm h=>HD E rec nt W all base i M prev l tm h) (fun f aa h=>acV f E rec aa h) j
def run (E:Env) (n:Nat):Job→Out:= @Nat.rec (fun _=>Job→Out) (fun _=>.fail "fuel") (fun _ ih j=>step E ih j) n
end Go.Sim
namespace Go.Sim
open Go.RowKit
section
theorem aC {α:Type} (b:Bool) (x y:α):sel b x y=if b=true then x else y:=by cases b<;>rfl
theorem av {α:Type} {b:Bool} {x:Option α} {r:α} (h:sel b x none=some r):b=true∧x=some r:=by
 cases b
 ·simp[sel] at h
 ·exact ⟨rfl,h⟩
theorem af {α γ:Type} {x:Option α} {f:α→Option γ} {r:γ} (h:ai x f=some r):∃a,x=some a∧f a=some r:=by
 cases x with
 |none=>cases h
 |some a=>exact ⟨a,rfl,h⟩
theorem ay {α β γ:Type} {x:Option α} {y:Option β} {f:α→β→Option γ} {r:γ} (h:aF x y f=some r):∃a b,x=some a∧y=some b∧f a b=some r:=by
 cases x with
 |none=>cases h
 |some a=>
  cases y with
  |none=>cases h
  |some b=>exact ⟨a,b,rfl,rfl,h⟩
theorem oZ {α β δ γ:Type} {x:Option α} {y:Option β} {z:Option δ} {f:α→β→δ→Option γ} {r:γ} (h:o7 x y z f=some r):∃a b c,x=some a∧y=some b∧z=some c∧f a b c=some r:=by
 obtain ⟨a,ha,h⟩:=af h;obtain ⟨b,c,hb,hc,h⟩:=ay h;exact ⟨a,b,c,ha,hb,hc,h⟩
theorem beq_iff (a b:Nat):Nat.beq a b=true↔a=b:=⟨Nat.eq_of_beq_eq_true,fun h=>by subst h;exact Nat.beq_refl a⟩
theorem beq_eq (a b:Nat):Nat.beq a b=decide (a=b):=by
 rw[Bool.eq_iff_iff,beq_iff];simp
theorem aX (a b:Nat):Nat.ble a b=true↔a≤b:=by rw[Nat.ble_eq]
theorem ble_eq (a b:Nat):Nat.ble a b=decide (a≤b):=by
 rw[Bool.eq_iff_iff,aX];simp
theorem Tr.get_nil {α:Type} (i:Nat):(Tr.nil:Tr α).get i=none:=rfl
theorem Tr.qh {α:Type} (l r:Tr α) (v:Option α) (i:Nat):(Tr.node l v r).get i=if i=0 then v else if i % 2=1 then l.get (i / 2) else r.get (i / 2-1):=by
 show sel (Nat.beq i 0) v (sel (Nat.beq (Nat.mod i 2) 1) (l.get (Nat.div i 2)) (r.get (Nat.sub (Nat.div i 2) 1)))=_;rw[aC,aC,beq_eq,beq_eq];simp only[decide_eq_true_eq];rfl
def Tr.left {α:Type}:Tr α→Tr α
 | .nil=>.nil
 | .node l _ _=>l
def Tr.right {α:Type}:Tr α→Tr α
 | .nil=>.nil
 | .node _ _ r=>r
def Tr.val {α:Type}:Tr α→Option α
 | .nil=>none
 | .node _ v _=>v
theorem Tr.vN {α:Type} (t:Tr α) (i:Nat):t.get i=if i=0 then t.val else if i % 2=1 then t.left.get (i / 2) else t.right.get (i / 2-1):=by
 cases t with
 |nil=>simp[Tr.val,Tr.left,Tr.right,Tr.get_nil]
 |node l v r=>rw[Tr.qh];rfl
theorem Tr.UB {α:Type} (n:Nat) (t:Tr α) (i:Nat) (x:Option α):Tr.vf (n+1) t i x=
  if i=0 then .node t.left x t.right else if i % 2=1 then .node (Tr.vf n t.left (i / 2) x) t.val t.right else .node t.left t.val (Tr.vf n t.right (i / 2-1) x):=by
 have e:Tr.vf (n+1) t i x=sel (Nat.beq i 0) (Tr.node t.left x t.right) (sel (Nat.beq (Nat.mod i 2) 1) (.node (Tr.vf n t.left (Nat.div i 2) x) t.val t.right) (.node t.left t.val (Tr.vf n t.right (Nat.sub (Nat.div i 2) 1) x))):=by
  cases t<;>rfl
 rw[e,aC,aC,beq_eq,beq_eq];simp only[decide_eq_true_eq];rfl
theorem Tr.zi {α:Type}:∀(n:Nat) (t:Tr α) (i j:Nat) (x:Option α),i<n→(Tr.vf n t i x).get j=if j=i then x else t.get j
 |0,_,_,_,_,h=>by omega
 |n+1,t,i,j,x,h=>by
  rw[Tr.UB];by_cases h0:i=0
  ·subst h0;rw[if_pos rfl,Tr.qh];by_cases hj:j=0
   ·simp[hj]
   ·rw[if_neg hj,if_neg hj,Tr.vN t j,if_neg hj]
  ·rw[if_neg h0];by_cases h1:i % 2=1
   ·rw[if_pos h1,Tr.qh,Tr.vN t j];by_cases hj:j=0
    ·subst hj;rw[if_pos rfl,if_pos rfl,if_neg (by omega)]
    ·rw[if_neg hj,if_neg hj];by_cases hj1:j % 2=1
     ·rw[if_pos hj1,if_pos hj1,Tr.zi n _ _ _ _ (by omega)]
      by_cases e:j=i
      ·rw[if_pos e,if_pos (by omega)]
      ·rw[if_neg e,if_neg (by omega)]
     ·rw[if_neg hj1,if_neg hj1,if_neg (by omega)]
   ·rw[if_neg h1,Tr.qh,Tr.vN t j];by_cases hj:j=0
    ·subst hj;rw[if_pos rfl,if_pos rfl,if_neg (by omega)]
    ·rw[if_neg hj,if_neg hj];by_cases hj1:j % 2=1
     ·rw[if_pos hj1,if_pos hj1,if_neg (by omega)]
     ·rw[if_neg hj1,if_neg hj1,Tr.zi n _ _ _ _ (by omega)]
      by_cases e:j=i
      ·rw[if_pos e,if_pos (by omega)]
      ·rw[if_neg e,if_neg (by omega)]
theorem Tr.bR {α:Type} (t:Tr α) (i j:Nat) (x:Option α):(t.set i x).get j=if j=i then x else t.get j:=Tr.zi (i+1) t i j x (by omega)
structure Gh where
 η:Nat→Int
 sz:TypeId→Nat
 ρ:Nat→Option (Nat×Nat)
 lim:Nat→Nat
 et:Nat→TypeId
 wb:Nat→Option Obj
structure Gh.le (g g':Gh):Prop where
 η:g'.η=g.η
 sz:g'.sz=g.sz
 ρ:∀id p,g.ρ id=some p→g'.ρ id=some p
 lim:∀id p,g.ρ id=some p→g'.lim id=g.lim id
 et:∀id p,g.ρ id=some p→g'.et id=g.et id
 wb:g'.wb=g.wb
theorem Gh.le.refl (g:Gh):g.le g:=⟨rfl,rfl,fun _ _ h=>h,fun _ _ _=>rfl,fun _ _ _=>rfl,rfl⟩
theorem Gh.le.trans {a b c:Gh} (h:a.le b) (k:b.le c):a.le c:=
 ⟨k.η.trans h.η,k.sz.trans h.sz,fun id p q=>k.ρ id p (h.ρ id p q),fun id p q=>(k.lim id p (h.ρ id p q)).trans (h.lim id p q),fun id p q=>(k.et id p (h.ρ id p q)).trans (h.et id p q),k.wb.trans h.wb⟩
mutual
inductive VR (g:Gh):Value→SV→Prop
 |bool (b):VR g (.bool b) (.bool b)
 |int (k e) {n:Int} (h:n=e.ev g.η):VR g (.int k n) (.int k e)
 |str (s):VR g (.string s) (.str s)
 |ptr {id off b o} (h:g.ρ id=some (b,o)):VR g (.pointer (some ⟨b,o+off,none⟩)) (.ptr id off)
 |cz:VR g (.pointer none) .cz
 |sl {id off n b o c} {cap:Cp} (h:g.ρ id=some (b,o)) (hn:n≤c) (hc:∀m,cap= .k m→c=m) (hl:∀e,cap= .u e→g.et id=e∧off+c*g.sz e≤g.lim id):VR g (.slice (some ⟨b,o+off,none⟩) n c) (.sl id off n cap)
 |sle {a c}:VR g (.slice a 0 c) .sle
 |aR:VR g (.slice none 0 0) .aR
 |mp {id b o} (h:g.ρ id=some (b,o)):VR g (.map (some b)) (.mp id)
 |cA:VR g (.map none) .cA
 |fn {f:FuncId} {first cf:Array Value} {fs cs:List SV} (h1:VRs g first.toList fs) (h2:VRs g cf.toList cs):VR g (.func (.func f) first cf) (.fn (.func f) fs cs)
 |yld {id b o} (h:g.ρ id=some (b,o)):VR g (.func (.yield b) #[] #[]) (.yld id)
 |cK:VR g .nilFunc .cK
 |ifc {t v x} (h:VR g v x):VR g (.iface t v) (.ifc t x)
 |cg:VR g .nilIface .cg
 |agg {vs:Array Value} {cs} (h:VCs g vs.toList cs):VR g (.agg vs) (.agg cs)
 |tup {vs:Array Value} {cs} (h:VRs g vs.toList cs):VR g (.tuple vs) (.tup cs)
 |undef (v):VR g v .undef
inductive VRs (g:Gh):List Value→List SV→Prop
 |nil:VRs g [] []
 |cons {v x vs xs} (h:VR g v x) (ht:VRs g vs xs):VRs g (v::vs) (x::xs)
inductive VCs (g:Gh):List Value→List SV→Prop
 |nil:VCs g [] []
 |cons {v x vs xs} (h1:v.oneCell'=true) (h:VR g v x) (ht:VCs g vs xs):VCs g (v::vs) (x::xs)
end
mutual
theorem VR.mono {g g':Gh} (hle:g.le g'):∀{v x},VR g v x→VR g' v x
 |_,_,.bool b=>.bool b
 |_,_,.int k e h=>.int k e (by rw[hle.η];exact h)
 |_,_,.str s=>.str s
 |_,_,.ptr h=>.ptr (hle.ρ _ _ h)
 |_,_,.cz=>.cz
 |_,_,.sl h hn hc hl=>.sl (hle.ρ _ _ h) hn hc (fun e he=>by rw[hle.sz,hle.et _ _ h,hle.lim _ _ h];exact hl e he)
 |_,_,.sle=>.sle
 |_,_,.aR=>.aR
 |_,_,.mp h=>.mp (hle.ρ _ _ h)
 |_,_,.cA=>.cA
 |_,_,.fn h1 h2=>.fn (h1.mono hle) (h2.mono hle)
 |_,_,.yld h=>.yld (hle.ρ _ _ h)
 |_,_,.cK=>.cK
 |_,_,.ifc h=>.ifc (h.mono hle)
 |_,_,.cg=>.cg
 |_,_,.agg h=>.agg (h.mono hle)
 |_,_,.tup h=>.tup (h.mono hle)
 |_,_,.undef v=>.undef v
theorem VRs.mono {g g':Gh} (hle:g.le g'):∀{v x},VRs g v x→VRs g' v x
 |_,_,.nil=>.nil
 |_,_,.cons h ht=>.cons (h.mono hle) (ht.mono hle)
theorem VCs.mono {g g':Gh} (hle:g.le g'):∀{v x},VCs g v x→VCs g' v x
 |_,_,.nil=>.nil
 |_,_,.cons h1 h ht=>.cons h1 (h.mono hle) (ht.mono hle)
end
variable {g:Gh} {P:Program}
theorem VCs.length:∀{vs:List Value} {cs:List SV},VCs g vs cs→vs.length=cs.length
 |_,_,.nil=>rfl
 |_,_,.cons _ _ ht=>by simp[ht.length]
theorem VRs.length:∀{vs:List Value} {cs:List SV},VRs g vs cs→vs.length=cs.length
 |_,_,.nil=>rfl
 |_,_,.cons _ ht=>by simp[ht.length]
theorem VCs.get:∀{vs:List Value} {cs:List SV},VCs g vs cs→∀{j:Nat} {x:SV},cs[j]? =some x→∃v,vs[j]? =some v∧v.oneCell'=true∧VR g v x
 |_,_,.nil,_,_,h=>by simp at h
 |_,_,.cons h1 hd ht,j,x,h=>by
  cases j with
  |zero=>simp at h;subst h;exact ⟨_,rfl,h1,hd⟩
  |succ j=>simp at h;obtain ⟨v,a,b,c⟩:=ht.get h;exact ⟨v,by simpa using a,b,c⟩
theorem VRs.get:∀{vs:List Value} {cs:List SV},VRs g vs cs→∀{j:Nat} {x:SV},cs[j]? =some x→∃v,vs[j]? =some v∧VR g v x
 |_,_,.nil,_,_,h=>by simp at h
 |_,_,.cons hd ht,j,x,h=>by
  cases j with
  |zero=>simp at h;subst h;exact ⟨_,rfl,hd⟩
  |succ j=>simp at h;obtain ⟨v,a,c⟩:=ht.get h;exact ⟨v,by simpa using a,c⟩
theorem VCs.append:∀{vs us:List Value} {cs ds:List SV},VCs g vs cs→VCs g us ds→VCs g (vs++us) (cs++ds)
 |_,_,_,_,.nil,k=>k
 |_,_,_,_,.cons h1 hd ht,k=>.cons h1 hd (ht.append k)
theorem VRs.append:∀{vs us:List Value} {cs ds:List SV},VRs g vs cs→VRs g us ds→VRs g (vs++us) (cs++ds)
 |_,_,_,_,.nil,k=>k
 |_,_,_,_,.cons hd ht,k=>.cons hd (ht.append k)
theorem VCs.drop:∀{vs:List Value} {cs:List SV} (n:Nat),VCs g vs cs→VCs g (vs.drop n) (cs.drop n)
 |_,_,0,h=>h
 |_,_,n+1,.nil=>by simpa using .nil
 |_,_,n+1,.cons _ _ ht=>by simpa using ht.drop n
theorem VCs.take:∀{vs:List Value} {cs:List SV} (n:Nat),VCs g vs cs→VCs g (vs.take n) (cs.take n)
 |_,_,0,_=>by simpa using .nil
 |_,_,n+1,.nil=>by simpa using .nil
 |_,_,n+1,.cons h1 hd ht=>by simpa using .cons h1 hd (ht.take n)
theorem VCs.one:∀{vs:List Value} {cs:List SV},VCs g vs cs→∀v∈vs,v.oneCell'=true
 |_,_,.nil,v,hv=>by simp at hv
 |_,_,.cons h1 _ ht,v,hv=>by
  rcases List.mem_cons.1 hv with rfl|hv
  ·exact h1
  ·exact ht.one v hv
theorem VCs.mk:∀{vs:List Value} {cs:List SV},vs.length=cs.length→(∀(j:Nat) (v:Value) (x:SV),vs[j]? =some v→cs[j]? =some x→v.oneCell'=true∧VR g v x)→VCs g vs cs
 | [],[],_,_=>.nil
 |v::vs,x::xs,hl,h=>by
  obtain ⟨a,b⟩:=h 0 v x rfl rfl;exact .cons a b (VCs.mk (by simpa using hl) fun j v x hv hx=>h (j+1) v x (by simpa using hv) (by simpa using hx))
 | [],_::_,hl,_=>by simp at hl
 |_::_,[],hl,_=>by simp at hl
structure Cells (g:Gh) (w:World) (id b o:Nat) (e:TypeId) (cs:List SV):Prop where
 mem:∃cur:Array Value,w.heap[b]? =some (.cells cur e (0,0))∧o+g.lim id≤cur.size∧∃vs,VCs g vs cs∧∀j v,vs[j]? =some v→cur[o+j]? =some v
 et:g.et id=e
def R1 (g:Gh) (m:MapEntry) (x:SV×SV×Nat):Prop:=VR g m.key x.1∧VR g m.val x.2.1∧m.born=x.2.2
inductive cy (g:Gh):List MapEntry→List (SV×SV×Nat)→Prop
 |nil:cy g [] []
 |cons {m x ms xs} (h:R1 g m x) (ht:cy g ms xs):cy g (m::ms) (x::xs)
theorem cy.mono {g g':Gh} (hle:g.le g'):∀{ms:List MapEntry} {xs:List (SV×SV×Nat)},cy g ms xs→cy g' ms xs
 |_,_,.nil=>.nil
 |_,_,.cons h ht=>.cons ⟨h.1.mono hle,h.2.1.mono hle,h.2.2⟩ (ht.mono hle)
structure FR (g:Gh) (nt:Nat) (tm:Tf) (tmps:Array Value):Prop where
 sz:tmps.size=nt
 tm:∀t x,tm t=some x→VR g (tmps.getD t undef) x
theorem FR.mono {g g':Gh} (hle:g.le g') {nt:Nat} {tm:Tf} {tmps:Array Value} (h:FR g nt tm tmps):FR g' nt tm tmps:=⟨h.sz,fun t x hx=>(h.tm t x hx).mono hle⟩
def OR (g:Gh) (w:World) (id b o:Nat):SO→Prop
 | .cells e cs=>Cells g w id b o e cs
 | .map es c=>∃ms,w.heap[b]? =some (.map ms c)∧cy g ms.toList es
 | .gm s pos=>o=0∧w.heap[b]? =some (.stringIter s pos)
 | .mapIter mp since seen last=>o=0∧∃(bm:Option Nat) (sa:Array Nat),w.heap[b]? =some (.mapIter bm since sa last)∧sa.toList=seen∧(match mp with|none=>bm=none|some m=>∃x y,bm=some x∧g.ρ m=some (x,y))
 | .loop nt tm ps aa bo st pe dd=>codeOk aa=true∧codeOk bo=true∧∃l:Loop,w.heap[b]? =some (.loop l)∧l.state=st∧l.pending=pe∧l.params.toList=ps∧l.assign=aa∧l.body=bo∧FR g nt tm.get l.tmps∧∃o',g.ρ dd=some (l.defers,o')
 | .dfr=>w.heap[b]? =some (.deferred (some []))
 | .ro cs=>∃(cur:Array Value) (e:TypeId) (fz:Nat×Nat),w.heap[b]? =some (.cells cur e fz)∧g.wb b=some (.cells cur e fz)∧∀j x,cs[j]? =some x→∃v,cur[o+j]? =some v∧(isU x=false→v.oneCell'=true∧VR g v x)
theorem Cells.mono {g g':Gh} (hle:g.le g') {w w':World} {id b o:Nat} {e:TypeId} {cs:List SV} (hρ:g.ρ id=some (b,o)) (h:Cells g w id b o e cs) (hw:w'.heap[b]? =w.heap[b]?):Cells g' w' id b o e cs:=by
 obtain ⟨⟨cur,h1,h0,vs,h2,h3⟩,h4⟩:=h;exact ⟨⟨cur,hw.trans h1,by rw[hle.lim _ _ hρ];exact h0,vs,h2.mono hle,h3⟩,(hle.et _ _ hρ).trans h4⟩
theorem OR.mono {g g':Gh} (hle:g.le g') {w w':World} {id b o:Nat} {x:SO} (hρ:g.ρ id=some (b,o)) (h:OR g w id b o x) (hw:w'.heap[b]? =w.heap[b]?):OR g' w' id b o x:=by
 cases x with
 |cells e cs=>exact Cells.mono hle hρ h hw
 |map es c=>obtain ⟨ms,h1,h2⟩:=h;exact ⟨ms,hw.trans h1,h2.mono hle⟩
 |gm s pos=>exact ⟨h.1,hw.trans h.2⟩
 |mapIter mp since seen last=>
  obtain ⟨h0,bm,sa,h1,h2,h3⟩:=h;refine ⟨h0,bm,sa,hw.trans h1,h2,?_⟩;cases mp with
  |none=>exact h3
  |some m=>obtain ⟨x,y,e1,e2⟩:=h3;exact ⟨x,y,e1,hle.ρ _ _ e2⟩
 |loop nt tm ps aa bo st pe dd=>
  obtain ⟨k1,k2,l,h1,h2,h3,h4,h5,h6,h7,o',h8⟩:=h;exact ⟨k1,k2,l,hw.trans h1,h2,h3,h4,h5,h6,h7.mono hle,o',hle.ρ _ _ h8⟩
 |dfr=>exact hw.trans h
 |ro cs=>
  obtain ⟨cur,e,fz,h1,h0,h2⟩:=h;refine ⟨cur,e,fz,hw.trans h1,(congrFun hle.wb b).trans h0,fun j x hx=> ?_⟩
  obtain ⟨v,a,b⟩:=h2 j x hx;exact ⟨v,a,fun hu=>⟨(b hu).1,(b hu).2.mono hle⟩⟩
structure HR (g:Gh) (hp:Hf) (w:World):Prop where
 ob:∀id o,hp id=some o→∃b c,g.ρ id=some (b,c)∧b<w.heap.size∧OR g w id b c o
 inj:∀i j x y b c d,hp i=some x→hp j=some y→g.ρ i=some (b,c)→g.ρ j=some (b,d)→i=j
def Ee (g:Gh) (hp:Hf) (b:Nat):Prop:=∃id o c,hp id=some o∧g.ρ id=some (b,c)
structure Fr (g:Gh) (hp:Hf) (w:World) (g':Gh) (hp':Hf) (w':World):Prop where
 os:w'.os=w.os
 tape:w'.tape=w.tape
 output:w'.output=w.output
 size:w.heap.size≤w'.heap.size
 le:g.le g'
 old:∀b,b<w.heap.size→¬Ee g hp b→w'.heap[b]? =w.heap[b]?
 own:∀b,b<w.heap.size→Ee g' hp' b→Ee g hp b
theorem Fr.refl (g:Gh) (hp:Hf) (w:World):Fr g hp w g hp w:=⟨rfl,rfl,rfl,Nat.le_refl _,.refl _,fun _ _ _=>rfl,fun _ _ h=>h⟩
theorem Fr.trans {g g1 g2:Gh} {h h1 h2:Hf} {w w1 w2:World} (a:Fr g h w g1 h1 w1) (b:Fr g1 h1 w1 g2 h2 w2):Fr g h w g2 h2 w2:=
 ⟨b.os.trans a.os,b.tape.trans a.tape,b.output.trans a.output,Nat.le_trans a.size b.size,a.le.trans b.le,
  fun k hk hn=>(b.old k (Nat.lt_of_lt_of_le hk a.size) (fun hm=>hn (a.own k hk hm))).trans (a.old k hk hn),
  fun k hk hm=>a.own k hk (b.own k (Nat.lt_of_lt_of_le hk a.size) hm)⟩
end
theorem Wx {e:SI} {n:Nat} (h:YG e=some n):e= .lit (.ofNat n):=by
 unfold YG at h;split at h
 ·simp at h;subst h;rfl
 ·simp at h
theorem kH {x:SV} {n:Nat} (h:eX x=some n):∃k,x= .int k (.lit (.ofNat n)):=by
 cases x<;>first|(exact ⟨_,by rw[Wx h]⟩)|cases h
theorem k9 {x:SV} {b:Bool} (h:il x=some b):x= .bool b:=by cases x<;>cases h<;>rfl
theorem jF {x:SV} {p:IntKind×SI} (h:intOf x=some p):x= .int p.1 p.2:=by cases x<;>cases h<;>rfl
theorem fj {x:SV} {s:ByteArray} (h:strOf x=some s):x= .str s:=by cases x<;>cases h<;>rfl
theorem gO {x:SV} {q:Nat×Nat} (h:lp x=some q):x= .ptr q.1 q.2:=by cases x<;>cases h<;>rfl
theorem pa {x:SV} {cs:List SV} (h:ur x=some cs):x= .agg cs:=by cases x<;>cases h<;>rfl
theorem OY {x:SV} {cs:List SV} (h:zN x=some cs):x= .tup cs:=by cases x<;>cases h<;>rfl
theorem ED {x:SV} {i:Nat} (h:YH x=some i):x= .mp i:=by cases x<;>cases h<;>rfl
theorem UA {x:SV} {q:Nat×Nat×Nat×Cp} (h:Yd x=some q):x= .sl q.1 q.2.1 q.2.2.1 q.2.2.2:=by cases x<;>cases h<;>rfl
theorem rb {x:SV} {n:Nat} (h:oi x=some n):(∃i o c,x= .sl i o n c)∨(x= .aR∧n=0)∨(x= .sle∧n=0):=by
 cases x<;>first|(cases h;exact .inl ⟨_,_,_,rfl⟩)|(cases h;exact .inr (.inl ⟨rfl,rfl⟩))|(cases h;exact .inr (.inr ⟨rfl,rfl⟩))|cases h
theorem PK {x y:SV} (h:Av x=some y):y=x∧((∃i o,x= .ptr i o)∨(∃f a c,x= .fn f a c)∨∃l,x= .yld l):=by
 cases x<;>first|(cases h;exact ⟨rfl,.inl ⟨_,_,rfl⟩⟩)|(cases h;exact ⟨rfl,.inr (.inl ⟨_,_,_,rfl⟩)⟩)|(cases h;exact ⟨rfl,.inr (.inr ⟨_,rfl⟩)⟩)|cases h
theorem jT {d:UD} {e:TypeId} (h:je d=some e):d= .slice e:=by cases d<;>cases h<;>rfl
theorem uZ {d:UD} {fs:List FL} (h:mE d=some fs):d= .struct fs:=by cases d<;>cases h<;>rfl
theorem vx {d:UD} {q:TypeId×TypeId} (h:pZ d=some q):d= .map q.1 q.2:=by cases d<;>cases h<;>rfl
theorem M1 {d:UD} (h:nQ d=true):d= .string:=by cases d<;>cases h<;>rfl
theorem JW {d:UD} (h:w9 d=true):d= .bool:=by cases d<;>cases h<;>rfl
theorem jX {o:Option SO} {p:TypeId×List SV} (h:jQ o=some p):o=some (.cells p.1 p.2):=by
 unfold jQ at h;split at h
 ·simp at h;subst h;rfl
 ·simp at h
theorem nN {o:Option SO} {p:List (SV×SV×Nat)×Nat} (h:ji o=some p):o=some (.map p.1 p.2):=by
 unfold ji at h;split at h
 ·simp at h;subst h;rfl
 ·simp at h
theorem AN {o:Option SO} {p:ByteArray×Nat} (h:rj o=some p):o=some (.gm p.1 p.2):=by
 unfold rj at h;split at h
 ·simp at h;subst h;rfl
 ·simp at h
theorem de {a b:IntKind} (h:bV a b=true):a=b:=by
 cases a<;>cases b<;>first|rfl|(simp[bV] at h)
theorem P0 (a:IntKind):bV a a=true:=by cases a<;>rfl
theorem lV (a b:Int):r7 a b=decide (a=b):=by
 cases a<;>cases b<;>simp[r7,beq_eq]
 rename_i m n;exact ⟨fun h=>by rw[h],fun h=>Int.ofNat.inj h⟩
theorem lE (a b:Int):mf a b=decide (a<b):=by
 cases a<;>cases b<;>simp only[mf,ble_eq,decide_eq_decide]
 ·rename_i m n;simp only[Int.ofNat_eq_natCast];omega
 ·rename_i m n;simp only[eq_comm (a:=false),decide_eq_false_iff_not,Int.ofNat_eq_natCast];omega
 ·rename_i m n;simp only[eq_comm (a:=true),decide_eq_true_eq,Int.ofNat_eq_natCast];omega
 ·rename_i m n;omega
theorem SI.nX (η:Nat→Int):∀{a b:SI},a.eqb b=true→a.ev η=b.ev η
 | .lit a,.lit b,h=>by simpa[SI.eqb,lV,SI.ev] using h
 | .var a,.var b,h=>by have:=(beq_iff a b).1 h;subst this;rfl
 | .add k a b,.add k' a' b',h=>by
  simp only[SI.eqb,Bool.and_eq_true] at h;obtain ⟨h1,h2,h3⟩:=h;rw[SI.ev,SI.ev,de h1,SI.nX η h2,SI.nX η h3]
 | .sub k a b,.sub k' a' b',h=>by
  simp only[SI.eqb,Bool.and_eq_true] at h;obtain ⟨h1,h2,h3⟩:=h;rw[SI.ev,SI.ev,de h1,SI.nX η h2,SI.nX η h3]
 | .conv k a,.conv k' a',h=>by
  simp only[SI.eqb,Bool.and_eq_true] at h;obtain ⟨h1,h2⟩:=h;rw[SI.ev,SI.ev,de h1,SI.nX η h2]
 | .lit _,.var _,h| .lit _,.add _ _ _,h| .lit _,.sub _ _ _,h| .lit _,.conv _ _,h=>by simp[SI.eqb] at h
 | .var _,.lit _,h| .var _,.add _ _ _,h| .var _,.sub _ _ _,h| .var _,.conv _ _,h=>by simp[SI.eqb] at h
 | .add _ _ _,.lit _,h| .add _ _ _,.var _,h| .add _ _ _,.sub _ _ _,h| .add _ _ _,.conv _ _,h=>by simp[SI.eqb] at h
 | .sub _ _ _,.lit _,h| .sub _ _ _,.var _,h| .sub _ _ _,.add _ _ _,h| .sub _ _ _,.conv _ _,h=>by simp[SI.eqb] at h
 | .conv _ _,.lit _,h| .conv _ _,.var _,h| .conv _ _,.add _ _ _,h| .conv _ _,.sub _ _ _,h=>by simp[SI.eqb] at h
def qH (P:Program) (t:TypeId):UD→Prop
 | .bool=>P.underlying t=some .bool
 | .int k=>P.underlying t=some (.int k)
 | .string=>P.underlying t=some .string
 | .pointer=>∃e,P.underlying t=some (.pointer e)
 | .slice e=>P.underlying t=some (.slice e)
 | .array n e=>P.underlying t=some (.array n e)
 | .map k e=>P.underlying t=some (.map k e)
 | .struct fs=>∃a:Array Field,P.underlying t=some (.struct a)∧a.toList.map (fun f=>FL.mk f.type f.offset (decide (f.name≠ "_")))=fs∧∀f∈a.toList,(P.info? f.type).isSome=true
 | .func=>∃a b c,P.underlying t=some (.func a b c)
 | .interface=>∃ms,P.underlying t=some (.interface ms)
 | .other=>False
def Li (agg:Bool) (z:Value) (cs:List SV):Prop:=
 (∀g,VCs g z.cells.toList cs)∧(agg=true→∃a,z= .agg a)∧(agg=false→z.oneCell'=true)
structure qC (P:Program) (t:TypeId) (i:TI):Prop where
 desc:qH P t i.desc
 info:∃f z,P.info? t=some f∧f.size=i.size∧f.bytes=i.bytes∧f.comparable=i.comparable∧f.zero=some z∧Li (eU i.desc) z i.zero∧(eU i.desc=true→i.zero.length=i.size)
structure bu (E:Env) (g:Gh):Prop where
 ty:∀t i,E.ty.get t=some i→qC E.P t i
 fn:∀f x,E.fn.get f=some x→E.P.funcs[f]? =some x
 lt:∀a b r,(a,b,r)∈E.lt→decide (a.ev g.η<b.ev g.η)=r
 eq:∀a b r,(a,b,r)∈E.eq→decide (a.ev g.η=b.ev g.η)=r
 mix:E.P.follows .mixedOrders=true
 sz:∀t,g.sz t=E.P.cellsOf t
theorem bu.mono {E:Env} {g g':Gh} (h:bu E g) (hle:g.le g'):bu E g':=
 ⟨h.ty,h.fn,fun a b r hm=>by rw[hle.η];exact h.lt a b r hm,fun a b r hm=>by rw[hle.η];exact h.eq a b r hm,h.mix,fun t=>by rw[hle.sz];exact h.sz t⟩
theorem bu.size {E:Env} {g:Gh} (h:bu E g) {t:TypeId} {i:TI} (hi:E.ty.get t=some i):g.sz t=i.size:=by
 obtain ⟨f,z,h1,h2,_⟩:=(h.ty t i hi).info;rw[h.sz,Program.cellsOf,h1];simpa using h2
theorem yZ {a b:SI} {η:Nat→Int} {Q:Int→Int→Bool→Prop}:∀{l:List (SI×SI×Bool)} {r:Bool},look a b l=some r→(∀x y r,(x,y,r)∈l→Q (x.ev η) (y.ev η) r)→Q (a.ev η) (b.ev η) r
 | [],_,h,_=>by simp[look] at h
 |(x,y,r')::l,r,h,hq=>by
  unfold look at h;rw[aC] at h;split at h
  ·rename_i hc;simp only[Bool.and_eq_true] at hc;simp at h;subst h;rw[←SI.nX η hc.1,←SI.nX η hc.2];exact hq x y r' (by simp)
  ·exact yZ h fun x y r hm=>hq x y r (by simp[hm])
theorem mR {E:Env} {g:Gh} (hE:bu E g) {a b:SI} {r:Bool} (h:ltI E a b=some r):decide (a.ev g.η<b.ev g.η)=r:=by
 unfold ltI at h;split at h
 ·simp at h;subst h;rw[lE];rfl
 ·exact yZ (Q:=fun x y r=>decide (x<y)=r) h hE.lt
theorem zn {E:Env} {g:Gh} (hE:bu E g) {a b:SI} {r:Bool} (h:eqI E a b=some r):decide (a.ev g.η=b.ev g.η)=r:=by
 unfold eqI at h;split at h
 ·simp at h;subst h;rw[lV];rfl
 ·unfold eqS at h;rw[aC] at h;split at h
  ·rename_i hc;simp at h;subst h;rw[SI.nX g.η hc];simp
  ·exact yZ (Q:=fun x y r=>decide (x=y)=r) h hE.eq
theorem Bw:∀(a b:List UInt8),jS a b=decide (a=b)
 | [],[]=>by simp[jS]
 | [],_::_=>by simp[jS]
 |_::_,[]=>by simp[jS]
 |a::l,b::m=>by
  rw[jS,Bw l m,beq_eq,Bool.eq_iff_iff];simp only[Bool.and_eq_true,decide_eq_true_eq,List.cons.injEq];rw[←UInt8.toNat_inj]
theorem kD (a b:ByteArray):pJ a b=decide (a=b):=by
 unfold pJ;rw[Bw,decide_eq_decide];constructor
 ·intro h;cases a with|mk a=>cases b with|mk b=>simp at h;simp[h]
 ·intro h;rw[h]
theorem pM {α:Type} {P:Program}:∀{s:Sem α} {a:α},cF P s=some a→∀w,s.run P w= .ok a w
 | .pure a,_,h,w=>by simp[cF] at h;subst h;rfl
 | .program k,a,h,w=>pM (s:=k P) h w
 | .load ..,_,h,_| .store ..,_,h,_| .new ..,_,h,_| .shape ..,_,h,_| .freeze ..,_,h,_| .frozen ..,_,h,_| .getObj ..,_,h,_| .setObj ..,_,h,_| .choose ..,_,h,_| .sys ..,_,h,_| .mark ..,_,h,_| .halt _,_,h,_=>by simp[cF] at h
mutual
theorem mv (g:Gh):∀(v:Value),VR g v (kJ v)
 | .bool b=>.bool b
 | .int k n=>.int k _ rfl
 | .string s=>.str s
 | .pointer none=>.cz
 | .pointer (some _)=>.undef _
 | .slice none 0 0=>.aR
 | .slice none 0 (_+1)=>.undef _
 | .slice none (_+1) _=>.undef _
 | .slice (some _) _ _=>.undef _
 | .map none=>.cA
 | .map (some _)=>.undef _
 | .nilFunc=>.cK
 | .nilIface=>.cg
 | .agg ⟨cs⟩=>by
  unfold kJ;rw[aC];split
  ·rename_i hc;refine .agg ?_;have hr:=si g cs;refine VCs.mk hr.length fun j v x hv hx=> ?_
   obtain ⟨u,hu,hd⟩:=hr.get hx;have hv:cs[j]? =some v:=hv;rw[hv] at hu;obtain rfl:v=u:=by simpa using hu
   exact ⟨List.all_eq_true.1 hc v (List.mem_of_getElem? hv),hd⟩
  ·exact .undef _
 | .tuple ⟨cs⟩=>.tup (si g cs)
 | .float _ _| .complex _ _ _| .chan _| .func _ _ _| .iface _ _=>.undef _
theorem si (g:Gh):∀(vs:List Value),VRs g vs (ig vs)
 | []=>.nil
 |v::vs=>.cons (mv g v) (si g vs)
end
section
variable {E:Env} {g:Gh} {w:World}
theorem oE {P:Program} {t:TypeId} {i:TI} (h:qC P t i) (w:World):(isAgg t).run P w= .ok (eU i.desc) w:=by
 have hd:=h.desc;generalize i.desc=d at hd;cases d<;>simp only[qH] at hd
 case pointer=>obtain ⟨e,he⟩:=hd;simp only[isAgg,Sem.run_bind,run_underlying he,Result.andThen_ok];rfl
 case struct=>obtain ⟨e,he,_⟩:=hd;simp only[isAgg,Sem.run_bind,run_underlying he,Result.andThen_ok];rfl
 case func=>obtain ⟨_,_,_,he⟩:=hd;simp only[isAgg,Sem.run_bind,run_underlying he,Result.andThen_ok];rfl
 case interface=>obtain ⟨e,he⟩:=hd;simp only[isAgg,Sem.run_bind,run_underlying he,Result.andThen_ok];rfl
 all_goals (simp only[isAgg,Sem.run_bind,run_underlying hd,Result.andThen_ok];rfl)
theorem gC {P:Program} {t:TypeId} {i:TI} (h:qC P t i) (w:World):(sizeOf t).run P w= .ok i.size w:=by
 obtain ⟨f,z,h1,h2,_⟩:=h.info;simp[sizeOf,typeInfo,h1,h2]
theorem yI {P:Program} {t:TypeId} {i:TI} (h:qC P t i):∃z,(∀w,(zeroValue t).run P w= .ok z w)∧Li (eU i.desc) z i.zero∧(eU i.desc=true→i.zero.length=i.size):=by
 obtain ⟨f,z,h1,_,_,_,h5,h6⟩:=h.info;exact ⟨z,fun w=>by simp[zeroValue,typeInfo,h1,h5],h6⟩
theorem oJ {P:Program} {t:TypeId} {i:TI} (hi:qC P t i) {cs:List SV} {off:Nat} {x:SV} {vs:Array Value} (h:cO i cs off=some x) (hc:VCs g vs.toList cs) (w:World):
  ∃v,(part t vs off).run P w= .ok v w∧VR g v x:=by
 unfold cO at h;rw[aC] at h;split at h
 ·rename_i ha;obtain ⟨hl,h⟩:=av h;simp at h;subst h;refine ⟨.agg (vs.extract off (off+i.size)),?_,.agg ?_⟩
  ·simp only[part,Sem.run_bind,oE hi,Result.andThen_ok,ha,if_true,gC hi,Sem.run_pure]
  ·have:(vs.extract off (off+i.size)).toList=(vs.toList.drop off).take i.size:=by simp[List.extract_eq_take_drop]
   rw[this];exact (hc.drop off).take _
 ·rename_i ha;obtain ⟨v,hv,_,hd⟩:=hc.get h;refine ⟨v,?_,hd⟩;have hv':vs[off]? =some v:=by simpa using hv
  have ha:eU i.desc=false:=by simpa using ha
  simp only[part,Sem.run_bind,oE hi,Result.andThen_ok,ha,Bool.false_eq_true,if_false,hv',Sem.run_pure]
theorem Ao {i:TI} {z:Value} (hz:Li (eU i.desc) z i.zero) (hl:eU i.desc=true→i.zero.length=i.size) {x:SV} (h:cO i i.zero 0=some x):VR g z x:=by
 unfold cO at h;rw[aC] at h;obtain ⟨h1,h2,h3⟩:=hz;split at h
 ·rename_i ha;obtain ⟨_,h⟩:=av h;simp at h;subst h;obtain ⟨a,rfl⟩:=h2 ha;rw[←hl ha,List.take_length];exact .agg (h1 g)
 ·rename_i ha;have ho:=h3 (by simpa using ha)
  obtain ⟨v,hv,_,hd⟩:=(h1 g).get h;have:z.cells= #[z]:=by cases z<;>first|rfl|(simp[Value.oneCell'] at ho)
  rw[this] at hv;simp at hv;subst hv;exact hd
theorem VR.cD {v:Value} {x:SV} {cs:List SV} (h:VR g v x) (hx:x.cells=some cs):VCs g v.cells.toList cs:=by
 cases h with
 |agg h=>cases hx;exact h
 |tup h=>cases hx
 |undef v=>cases hx
 |bool b=>cases hx;exact .cons rfl (.bool b) .nil
 |int k e h=>cases hx;exact .cons rfl (.int k e h) .nil
 |str s=>cases hx;exact .cons rfl (.str s) .nil
 |ptr h=>cases hx;exact .cons rfl (.ptr h) .nil
 |cz=>cases hx;exact .cons rfl .cz .nil
 |sl a b c d=>cases hx;exact .cons rfl (.sl a b c d) .nil
 |sle=>cases hx;exact .cons rfl .sle .nil
 |aR=>cases hx;exact .cons rfl .aR .nil
 |mp h=>cases hx;exact .cons rfl (.mp h) .nil
 |cA=>cases hx;exact .cons rfl .cA .nil
 |fn a b=>cases hx;exact .cons rfl (.fn a b) .nil
 |yld h=>cases hx;exact .cons rfl (.yld h) .nil
 |cK=>cases hx;exact .cons rfl .cK .nil
 |ifc h=>cases hx;exact .cons rfl (.ifc h) .nil
 |cg=>cases hx;exact .cons rfl .cg .nil
theorem fD {nt:Nat} {tm:Tf} {a:Act} (h:FR g nt tm a.tmps) {x:Operand} {v:SV} (hv:aI tm x=some v):VR g (a.eval x) v:=by
 cases x with
 |tmp t=>exact h.tm t v hv
 |const u=>cases hv;exact mv g u
 |global _=>cases hv
 |func f=>cases hv;exact .fn .nil .nil
theorem lR {nt:Nat} {tm:Tf} {a:Act} (h:FR g nt tm a.tmps):∀{xs:List Operand} {vs:List SV},bF tm xs=some vs→VRs g (xs.map a.eval) vs
 | [],_,hv=>by cases hv;exact .nil
 |x::xs,vs,hv=>by
  obtain ⟨v,l,h1,h2,h3⟩:=ay hv;cases h3;exact .cons (fD h h1) (lR h h2)
theorem Lg {r k:Option Bool} {b:Bool} (h:andThen r k=some b):(r=some true∧k=some b)∨(r=some false∧b=false):=by
 cases r with
 |none=>simp[andThen] at h
 |some c=>cases c<;>simp[andThen] at h<;>simp[h]
theorem EZ {E:Env} (hE:bu E g) {eq:TypeId→SV→SV→Option Bool} {m:Nat} (heq:∀(t:TypeId) (x y:SV) (b:Bool),eq t x y=some b→∀(u v:Value),VR g u x→VR g v y→∀w,(Op.equalIn m t u v).run E.P w= .ok b w)
  {us vs:Array Value} {xs ys:List SV} (hx:VCs g us.toList xs) (hy:VCs g vs.toList ys):∀(l:List Field) (b:Bool),ud E eq xs ys (l.map fun f=>FL.mk f.type f.offset (decide (f.name≠ "_")))=some b→∀w,(Op.eqFields m us vs l).run E.P w= .ok b w
 | [],b,h,w=>by cases h;simp[Op.eqFields]
 |f::l,b,h,w=>by
  simp only[List.map_cons,ud] at h;obtain ⟨hn,h⟩:=av h;obtain ⟨i,hi,h⟩:=af h;obtain ⟨x,y,hpx,hpy,h⟩:=ay h;have A1:f.name≠ "_" :=by simpa using hn
  obtain ⟨v1,hr1,hd1⟩:=oJ (hE.ty _ _ hi) hpx hx w;obtain ⟨v2,hr2,hd2⟩:=oJ (hE.ty _ _ hi) hpy hy w;rcases Lg h with ⟨h1,h2⟩|⟨h1,rfl⟩
  ·have he:=heq _ _ _ _ h1 v1 v2 hd1 hd2 w;simp only[Op.eqFields,if_pos A1,Sem.run_bind,hr1,hr2,he,Result.andThen_ok,Sem.run_ite,Sem.run_pure];simpa using EZ hE heq hx hy l b h2 w
  ·have he:=heq _ _ _ _ h1 v1 v2 hd1 hd2 w;simp only[Op.eqFields,if_pos A1,Sem.run_bind,hr1,hr2,he,Result.andThen_ok,Sem.run_ite,Sem.run_pure];simp
theorem zm {E:Env} (hE:bu E g):∀(n:Nat) (t:TypeId) (x y:SV) (b:Bool),eqT E n t x y=some b→∀(u v:Value),VR g u x→VR g v y→∀(d:Nat) (w:World),(Op.equalIn (n+d) t u v).run E.P w= .ok b w
 |0,_,_,_,_,h=>by cases h
 |n+1,t,x,y,b,h=>by
  intro u v hu hv d w;have hnd:n+1+d=(n+d)+1:=by omega
  rw[hnd];obtain ⟨i,hi,h⟩:=af (show ai (E.ty.get t) (fun i=>eqD i.desc E (eqT E n) t x y)=some b from h)
  have hT:=hE.ty t i hi;have hd:=hT.desc;generalize i.desc=D at hd h;cases D with
  |bool=>
   obtain ⟨p,q,h1,h2,h3⟩:=ay (show aF (il x) (il y) _=some b from h);obtain rfl:=k9 h1;obtain rfl:=k9 h2;cases hu;cases hv;cases h3;exact run_equalIn_bool' w _ t _ _ hd
  |int k=>
   obtain ⟨p,q,h1,h2,h3⟩:=ay (show aF (intOf x) (intOf y) _=some b from h);obtain ⟨hk,h3⟩:=av h3;obtain rfl:=jF h1;obtain rfl:=jF h2;have hk:=de hk;have hb:=zn hE h3;cases hu with|int _ _ e1=>cases hv with|int _ _ e2=>
   rw[hk,run_equalIn_int w _ t _ _ _ _ hd,e1,e2,←hb];congr 1
  |string=>
   obtain ⟨p,q,h1,h2,h3⟩:=ay (show aF (strOf x) (strOf y) _=some b from h);obtain rfl:=fj h1;obtain rfl:=fj h2;cases hu;cases hv;cases h3;rw[run_equalIn_string w _ t _ _ hd,kD];congr 1;rw[ByteArray.toList_eq,ByteArray.toList_eq,Bool.eq_iff_iff];simp only[beq_iff_eq,decide_eq_true_eq];constructor
   ·intro h;cases p with|mk a=>cases q with|mk c=>simp at h;simp[h]
   ·intro h;rw[h]
  |pointer=>
   obtain ⟨e,hd⟩:=hd;have h:FY x y=some b:=h;unfold FY at h;split at h<;>first|(cases hu;cases hv;cases h;simp[Op.equalIn,run_underlying hd];done)|(simp at h)
  |slice e=>
   have h:D3 x y=some b:=h;unfold D3 at h;split at h<;>first|(cases hu;cases hv;cases h;simp[Op.equalIn,run_underlying hd];done)|(simp at h)
  |array _ _=>cases h
  |map _ _=>
   have h:FZ x y=some b:=h;unfold FZ at h;split at h<;>first|(cases hu;cases hv;cases h;simp[Op.equalIn,run_underlying hd];done)|(simp at h)
  |struct fs=>
   obtain ⟨a,hd,hfs,_⟩:=hd;obtain ⟨p,h1,h2⟩:=af (show ai (Xz x y) _=some b from h);obtain ⟨xs,ys,h3,h4,h5⟩:=ay h1;cases h5;obtain rfl:=pa h3;obtain rfl:=pa h4;rw[aC] at h2;split at h2
   ·simp at h2
   ·rename_i hp;have hp:E.P.stoodInHeld t=false:=by simpa using hp
    cases hu with|agg hx=>cases hv with|agg hy=>
    have hf:E.P.fieldsOf t=a:=by simp[Program.fieldsOf,hd]
    rw[run_equalIn_struct w _ t _ _ (by rw[hf];exact hd) hp,hf]
    subst hfs;exact EZ hE (fun t x y b h u v hu hv w=>zm hE n t x y b h u v hu hv d w) hx hy a.toList b h2 w
  |func=>
   obtain ⟨_,_,_,hd⟩:=hd;have h:Q6 x y=some b:=h;unfold Q6 at h;split at h<;>first|(cases hu;cases hv;cases h;simp[Op.equalIn,run_underlying hd];done)|(simp at h)
  |interface=>
   obtain ⟨ms,hd⟩:=hd;have hq:F0 E (eqT E n) x y=some b:=h;unfold F0 at hq;split at hq
   ·cases hu;cases hv;cases hq;simp[Op.equalIn,run_underlying hd]
   ·cases hu;cases hv;cases hq;simp[Op.equalIn,run_underlying hd]
   ·cases hu;cases hv;cases hq;simp[Op.equalIn,run_underlying hd]
   ·rename_i t1 v1 t2 v2 _;cases hu with|ifc h1=>cases hv with|ifc h2=>
    rw[aC] at hq;split at hq
    ·rename_i ht;have ht:=(beq_iff _ _).1 ht;subst ht;obtain ⟨i1,hi1,hq⟩:=af hq;obtain ⟨hc,hq⟩:=av hq;obtain ⟨f,z,q1,_,_,q4,_⟩:=(hE.ty _ _ hi1).info;have:=zm hE n t1 v1 v2 b hq _ _ h1 h2 d w;have hinf:(typeInfo t1).run E.P w= .ok f w:=by simp[typeInfo,q1]
     have hcc:f.comparable=true:=by rw[q4];exact hc
     simp[Op.equalIn,run_underlying hd,hinf,hcc,this]
    ·rename_i ht;have ht:t1≠t2:=fun e=>ht ((beq_iff _ _).2 e)
     obtain rfl:false=b:=by simpa using hq
     simp[Op.equalIn,run_underlying hd,ht]
   ·simp at hq
  |other=>exact hd.elim
end
section
variable {E:Env} {g:Gh} {w:World}
theorem aeA (η:Nat→Int) (k:IntKind) (a b:SI):(Lh k a b).ev η=k.wrap (a.ev η+b.ev η):=by
 unfold Lh;split<;>rfl
theorem Ng (η:Nat→Int) (k:IntKind) (a b:SI):(yG k a b).ev η=k.wrap (a.ev η - b.ev η):=by
 unfold yG;split<;>rfl
theorem ZX (η:Nat→Int) (k:IntKind) (a:SI):(Ga k a).ev η=k.wrap (a.ev η):=by
 unfold Ga;split<;>rfl
theorem sh {P : Program} {op : BinOp} {t : TypeId} {x y : Operand} {a b : Value} (h : P.eqGuardType P.depth t = false ∨ (∀ cs, a ≠ .agg cs)) (h2 : a ≠ .nilIface ∨ (isConst x || isConst y) = true) (w : World) : (eqGuard op t x y a b).run P w = .ok () w := by
  cases a <;> first
    | (cases op <;> rfl)
    | (rcases h2 with h2 | h2
       · exact absurd rfl h2
       · cases b <;> first
           | (cases op <;> rfl)
           | (cases op <;> first | rfl | (cases x <;> cases y <;> first | rfl | (simp [isConst] at h2)))
       )
    | (rcases h with h | h
       · cases b <;> first | (cases op <;> rfl) | exact run_eqGuard_agg w op t x y _ _ h
       · exact absurd rfl (h _))
theorem iP {neg:Bool} {r:Option Bool} {z:SV} (h:eK neg r=some z):∃b,r=some b∧z= .bool (if neg then !b else b):=by
 obtain ⟨b,h1,h2⟩:=af h;cases h2;exact ⟨b,h1,by cases neg<;>rfl⟩
theorem Ai {r:Option Value} {z:SV} (h:fR r=some z):∃v,r=some v∧z=kJ v:=by
 obtain ⟨v,h1,h2⟩:=af h;cases h2;exact ⟨v,h1,rfl⟩
theorem Xg (E:Env) (eq:TypeId→SV→SV→Option Bool) (t:TypeId) (d:UD) (y:SV):eqD d E eq t .undef y=none:=by
 cases d<;>rfl
theorem Xf (E:Env) (n:Nat) (t:TypeId) (y:SV):eqT E n t .undef y=none:=by
 cases n with
 |zero=>rfl
 |succ n=>
  show ai (E.ty.get t) (fun i=>eqD i.desc E (eqT E n) t .undef y)=none
  cases E.ty.get t with
  |none=>rfl
  |some i=>exact Xg _ _ _ _ _
theorem PT {op:BinOp} {t:TypeId} {k k':IntKind} {a b:SI} {z:SV} (h:lq E op t k k' a b=some z):∃m n v,a= .lit m∧b= .lit n∧cF E.P (binOp op t (.int k m) (.int k' n))=some v∧z=kJ v:=by
 unfold lq at h;split at h
 ·rename_i m n;obtain ⟨v,h1,h2⟩:=Ai h;exact ⟨m,n,v,rfl,rfl,h1,h2⟩
 ·simp at h
theorem W2 (x y:Int):(x==y)=decide (x=y):=by rw[Bool.eq_iff_iff];simp
theorem decLe (x y:Int):decide (x≤y)= !decide (y<x):=by rw[Bool.eq_iff_iff];simp
theorem VR.rH {b c:Bool} (h:b=c):VR g (.bool b) (.bool c):=by subst h;exact .bool b
theorem Qo (hE:bu E g) {op:BinOp} {t:TypeId} {k k':IntKind} {a b:SI} {z:SV} (h:FK op E op t k k' a b=some z) (w:World):
  ∃r,(binOp op t (.int k (a.ev g.η)) (.int k' (b.ev g.η))).run E.P w= .ok r w∧VR g r z:=by
 have lit:lq E op t k k' a b=some z→∃r,(binOp op t (.int k (a.ev g.η)) (.int k' (b.ev g.η))).run E.P w= .ok r w∧VR g r z:=by
  intro h;obtain ⟨m,n,v,rfl,rfl,h1,rfl⟩:=PT h;exact ⟨v,pM h1 w,mv g v⟩
 cases op with
 |add=>
  obtain ⟨hk,h⟩:=av (show sel (bV k k') (some (SV.int k (Lh k a b))) none=some z from h);cases h;obtain rfl:=de hk;exact ⟨_,by simp[binOp,Op.intArith]<;>rfl,.int _ _ (aeA _ _ _ _).symm⟩
 |sub=>
  obtain ⟨hk,h⟩:=av (show sel (bV k k') (some (SV.int k (yG k a b))) none=some z from h);cases h;obtain rfl:=de hk;exact ⟨_,by simp[binOp,Op.intArith]<;>rfl,.int _ _ (Ng _ _ _ _).symm⟩
 |eql=>
  obtain ⟨hk,h⟩:=av (show sel (bV k k') (eK false (eqI E a b)) none=some z from h);obtain ⟨c,h1,rfl⟩:=iP h;obtain rfl:=de hk;exact ⟨_,by simp[binOp,Op.intCmp]<;>rfl,VR.rH (by have:=zn hE h1;rw[W2,this];rfl)⟩
 |neq=>
  obtain ⟨hk,h⟩:=av (show sel (bV k k') (eK true (eqI E a b)) none=some z from h);obtain ⟨c,h1,rfl⟩:=iP h;obtain rfl:=de hk;exact ⟨_,by simp[binOp,Op.intCmp]<;>rfl,VR.rH (by have:=zn hE h1;rw[←this,←W2];rfl)⟩
 |lss=>
  obtain ⟨hk,h⟩:=av (show sel (bV k k') (eK false (ltI E a b)) none=some z from h);obtain ⟨c,h1,rfl⟩:=iP h;obtain rfl:=de hk;exact ⟨_,by simp[binOp,Op.intCmp]<;>rfl,VR.rH (by have:=mR hE h1;simpa using this)⟩
 |gtr=>
  obtain ⟨hk,h⟩:=av (show sel (bV k k') (eK false (ltI E b a)) none=some z from h);obtain ⟨c,h1,rfl⟩:=iP h;obtain rfl:=de hk;exact ⟨_,by simp[binOp,Op.intCmp]<;>rfl,VR.rH (by have:=mR hE h1;simpa using this)⟩
 |leq=>
  obtain ⟨hk,h⟩:=av (show sel (bV k k') (eK true (ltI E b a)) none=some z from h);obtain ⟨c,h1,rfl⟩:=iP h;obtain rfl:=de hk;exact ⟨_,by simp[binOp,Op.intCmp]<;>rfl,VR.rH (by have:=mR hE h1;rw[←this];first|exact decLe _ _|(rw[←decLe];rfl))⟩
 |geq=>
  obtain ⟨hk,h⟩:=av (show sel (bV k k') (eK true (ltI E a b)) none=some z from h);obtain ⟨c,h1,rfl⟩:=iP h;obtain rfl:=de hk;exact ⟨_,by simp[binOp,Op.intCmp]<;>rfl,VR.rH (by have:=mR hE h1;rw[←this];first|exact decLe _ _|(rw[←decLe];rfl))⟩
 |_=>exact lit h
theorem O3 {op:BinOp} {t:TypeId} {a b:ByteArray} {z:SV} (h:O4 op E op t a b=some z) (w:World):
  ∃r,(binOp op t (.string a) (.string b)).run E.P w= .ok r w∧VR g r z:=by
 have lit:fR (cF E.P (binOp op t (.string a) (.string b)))=some z→∃r,(binOp op t (.string a) (.string b)).run E.P w= .ok r w∧VR g r z:=by
  intro h;obtain ⟨v,h1,rfl⟩:=Ai h;exact ⟨v,pM h1 w,mv g v⟩
 have hb:(a.toList==b.toList)=decide (a=b):=by
  rw[ByteArray.toList_eq,ByteArray.toList_eq,Bool.eq_iff_iff];simp only[beq_iff_eq,decide_eq_true_eq];constructor
  ·intro h;cases a with|mk a=>cases b with|mk c=>simp at h;simp[h]
  ·intro h;rw[h]
 cases op with
 |eql=>cases h;exact ⟨_,by simp[binOp,Op.stringOp]<;>rfl,VR.rH (by rw[kD];simpa using hb)⟩
 |neq=>cases h;exact ⟨.bool (!(a.toList==b.toList)),by simp[binOp,Op.stringOp,bne],VR.rH (by rw[kD,hb])⟩
 |_=>exact lit h
theorem Fl {P:Program} {t:TypeId} {a b:Value} (h1:∀k n,a≠ .int k n) (h2:∀k n,a≠ .float k n) (h3:∀k n m,a≠ .complex k n m) (h4:∀s,a≠ .string s) (w:World):
  (binOp .eql t a b).run P w=((Op.equalIn 10000 t a b).run P w).andThen fun r w'=>.ok (.bool r) w':=by
 cases a<;>first|exact absurd rfl (h1 _ _)|exact absurd rfl (h2 _ _)|exact absurd rfl (h3 _ _ _)|exact absurd rfl (h4 _)|(simp only[binOp];simp[Op.equal,Op.maxDepth])
theorem Fk {P:Program} {t:TypeId} {a b:Value} (h1:∀k n,a≠ .int k n) (h2:∀k n,a≠ .float k n) (h3:∀k n m,a≠ .complex k n m) (h4:∀s,a≠ .string s) (w:World):
  (binOp .neq t a b).run P w=((Op.equalIn 10000 t a b).run P w).andThen fun r w'=>.ok (.bool (!r)) w':=by
 cases a<;>first|exact absurd rfl (h1 _ _)|exact absurd rfl (h2 _ _)|exact absurd rfl (h3 _ _ _)|exact absurd rfl (h4 _)|(simp only[binOp];simp[Op.equal,Op.maxDepth])
theorem Jl (hE:bu E g) {op:BinOp} {t:TypeId} {ox oy:Operand} {x y z:SV} {u v:Value} (hx:∀k e,x≠ .int k e) (hs:∀s,x≠ .str s) (h:eG op E t ox oy x y=some z) (hu:VR g u x) (hv:VR g v y) (w:World):
  ∃r,(do eqGuard op t ox oy u v;binOp op t u v:Sem Value).run E.P w= .ok r w∧VR g r z:=by
 have key:∀b,uc E t ox oy x y=some b→(eqGuard op t ox oy u v).run E.P w= .ok () w∧(∀w,(binOp .eql t u v).run E.P w= .ok (.bool b) w)∧(∀w,(binOp .neq t u v).run E.P w= .ok (.bool (!b)) w):=by
  intro b he;obtain ⟨hok,he⟩:=av he;have ez:=fun w=>zm hE 20 t x y b he u v hu hv 9980 w
  simp only[show 20+9980=10000 from rfl] at ez;have hnu:x≠ .undef:=fun e=>by rw[e,Xf] at he;simp at he
  have afI:(∀k n,u≠ .int k n)∧(∀k n,u≠ .float k n)∧(∀k n m,u≠ .complex k n m)∧(∀s,u≠ .string s)∧(E.P.eqGuardType E.P.depth t=false∨(∀cs,u≠ .agg cs))∧(u≠ .nilIface∨(isConst ox||isConst oy)=true):=by
   cases hu<;>first|exact absurd rfl (hx _ _)|exact absurd rfl (hs _)|exact absurd rfl hnu|(simp;done)|(simp[ZH] at hok;simp[hok])
  obtain ⟨f1,f2,f3,f4,f5,f6⟩:=afI;refine ⟨sh f5 f6 w,fun w=> ?_,fun w=> ?_⟩
  ·rw[Fl f1 f2 f3 f4,ez];rfl
  ·rw[Fk f1 f2 f3 f4,ez];rfl
 cases op with
 |eql=>
  obtain ⟨b,h1,rfl⟩:=iP (show eK false (uc E t ox oy x y)=some z from h);obtain ⟨k1,k2,k3⟩:=key b h1;exact ⟨.bool b,by simp only[Sem.run_bind,k1,Result.andThen_ok,k2],.bool b⟩
 |neq=>
  obtain ⟨b,h1,rfl⟩:=iP (show eK true (uc E t ox oy x y)=some z from h);obtain ⟨k1,k2,k3⟩:=key b h1;exact ⟨.bool (!b),by simp only[Sem.run_bind,k1,Result.andThen_ok,k3],.bool (!b)⟩
 |_=>cases h
theorem Xr (hE:bu E g) {op:BinOp} {t:TypeId} {ox oy:Operand} {x y z:SV} {u v:Value} (h:sj E op t ox oy x y=some z) (hu:VR g u x) (hv:VR g v y) (w:World):
  ∃r,(do eqGuard op t ox oy u v;binOp op t u v:Sem Value).run E.P w= .ok r w∧VR g r z:=by
 by_cases hx:∃k e,x= .int k e
 ·obtain ⟨k,a,rfl⟩:=hx;obtain ⟨p,h1,h2⟩:=af (show ai (intOf y) (fun p=>FK op E op t k p.1 a p.2)=some z from h)
  obtain rfl:=jF h1;cases hu with|int _ _ e1=>cases hv with|int _ _ e2=>
  subst e1;subst e2;obtain ⟨r,q1,q2⟩:=Qo hE h2 w;exact ⟨r,by rw[Sem.run_bind,sh (P:=E.P) (a:=.int k (a.ev g.η)) (.inr (by simp)) (.inl (by simp))];exact q1,q2⟩
 ·by_cases hs:∃s,x= .str s
  ·obtain ⟨s,rfl⟩:=hs;obtain ⟨b,h1,h2⟩:=af (show ai (strOf y) (fun b=>O4 op E op t s b)=some z from h)
   obtain rfl:=fj h1;cases hu;cases hv;obtain ⟨r,q1,q2⟩:=O3 (g:=g) h2 w;exact ⟨r,by rw[Sem.run_bind,sh (P:=E.P) (a:=.string s) (.inr (by simp)) (.inl (by simp))];exact q1,q2⟩
  ·have hx':∀k e,x≠ .int k e:=fun k e q=>hx ⟨k,e,q⟩
   have hs':∀s,x≠ .str s:=fun s q=>hs ⟨s,q⟩
   refine Jl hE hx' hs' ?_ hu hv w;cases x<;>first|exact absurd rfl (hx' _ _)|exact absurd rfl (hs' _)|exact h
theorem Td {P:Program} {t:TypeId} {i:TI} (h:qC P t i):∃d,P.underlying t=some d:=by
 have hd:=h.desc;generalize i.desc=d at hd;cases d<;>simp only[qH] at hd<;>first|exact ⟨_,hd⟩|exact ⟨_,hd.choose_spec⟩|exact ⟨_,hd.choose_spec.1⟩|exact ⟨_,hd.choose_spec.choose_spec.choose_spec⟩
theorem Rn (hE:bu E g) {src dst:TypeId} {x z:SV} {u:Value} (h:Br E src dst x=some z) (hu:VR g u x) (w:World):∃r,(convert src dst u).run E.P w= .ok r w∧VR g r z:=by
 obtain ⟨i,j,hi,hj,h⟩:=ay h;obtain ⟨d1,hd1⟩:=Td (hE.ty _ _ hi);have hd:=(hE.ty _ _ hj).desc;generalize j.desc=D at hd h;cases D with
 |int k=>
  obtain ⟨p,h1,h2⟩:=af (show ai (intOf x) (fun p=>some (SV.int k (Ga k p.2)))=some z from h)
  cases h2;obtain rfl:=jF h1;cases hu with|int _ _ e1=>
  subst e1;exact ⟨_,by simp[convert,run_underlying hd1,run_underlying hd,Conv.intToInt]<;>rfl,.int _ _ (ZX _ _ _).symm⟩
 |string=>
  obtain ⟨s,h1,h2⟩:=af (show ai (strOf x) (fun s=>some (SV.str s))=some z from h)
  cases h2;obtain rfl:=fj h1;cases hu;exact ⟨_,by simp[convert,run_underlying hd1,run_underlying hd]<;>rfl,.str _⟩
 |_=>cases h
theorem X5 {op:UnOp} {x z:SV} {u:Value} (h:unA op x=some z) (hu:VR g u x) {P:Program} (w:World):∃r,(Op.unary op u).run P w= .ok r w∧VR g r z:=by
 cases hu with
 |bool b=>
  obtain ⟨h1,h2⟩:=av (show sel (AP op) (some (SV.bool (!b))) none=some z from h);cases h2;cases op<;>first|(simp[AP] at h1;done)|exact ⟨_,rfl,.bool _⟩
 |int k e he=>
  obtain ⟨h1,h2⟩:=av (show sel (isNeg op) (some (SV.int k (yG k (.lit 0) e))) none=some z from h);cases h2;subst he;cases op<;>first|(simp[isNeg] at h1;done)|exact ⟨.int k (k.wrap (0-e.ev g.η)),by simp[Op.unary,Op.intArith],.int _ _ (by rw[Ng];simp only[SI.ev])⟩
 |_=>cases h
end
end Go.Sim
end
