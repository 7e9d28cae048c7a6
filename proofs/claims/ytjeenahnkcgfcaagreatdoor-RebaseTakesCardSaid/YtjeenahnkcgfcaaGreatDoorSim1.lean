/- A machine over trees of slots and a heap of numbered blocks, that the kernel can run. Definitions. -/
import Derived.WalkKit
import Derived.RangeFuncLeaves
import Derived.OrdersIn
set_option linter.unusedVariables false
namespace Go.Sim

/-- Whole numbers, some of them unknown. -/
inductive SI where
  | lit (n : Int)
  | var (i : Nat)
  | add (k : IntKind) (a b : SI)
  | sub (k : IntKind) (a b : SI)
  | conv (k : IntKind) (a : SI)
  deriving Inhabited

noncomputable def SI.ev (η : Nat → Int) : SI → Int
  | .lit n => n
  | .var i => η i
  | .add k a b => k.wrap (a.ev η + b.ev η)
  | .sub k a b => k.wrap (a.ev η - b.ev η)
  | .conv k a => k.wrap (a.ev η)

noncomputable def kindB : IntKind → IntKind → Bool
  | .i8, .i8 | .i16, .i16 | .i32, .i32 | .i64, .i64 | .u8, .u8 | .u16, .u16 | .u32, .u32 | .u64, .u64 => true
  | _, _ => false
noncomputable def intB : Int → Int → Bool
  | .ofNat a, .ofNat b => Nat.beq a b
  | .negSucc a, .negSucc b => Nat.beq a b
  | _, _ => false
noncomputable def intLt : Int → Int → Bool
  | .ofNat a, .ofNat b => Nat.ble (a + 1) b
  | .negSucc _, .ofNat _ => true
  | .ofNat _, .negSucc _ => false
  | .negSucc a, .negSucc b => Nat.ble (b + 1) a
noncomputable def SI.eqb : SI → SI → Bool
  | .lit a, .lit b => intB a b
  | .var a, .var b => Nat.beq a b
  | .add k a b, .add k' a' b' => kindB k k' && (a.eqb a' && b.eqb b')
  | .sub k a b, .sub k' a' b' => kindB k k' && (a.eqb a' && b.eqb b')
  | .conv k a, .conv k' a' => kindB k k' && a.eqb a'
  | _, _ => false

/-- A capacity: known, or not, and then of a block of this type. -/
inductive Cp where
  | k (n : Nat)
  | u (e : TypeId)
  deriving Inhabited

inductive SV where
  | bool (b : Bool)
  | int (k : IntKind) (e : SI)
  | str (s : ByteArray)
  | ptr (id off : Nat)
  | nilp
  | sl (id off n : Nat) (cap : Cp)
  | sle
  | nils
  | mp (id : Nat)
  | nilm
  | fn (f : Fn) (first caps : List SV)
  | yld (id : Nat)
  | nilf
  | ifc (t : TypeId) (v : SV)
  | nili
  | agg (cs : List SV)
  | tup (vs : List SV)
  | undef
  deriving Inhabited

/-- Trees with numbered places. -/
inductive Tr (α : Type) where
  | nil
  | node (l : Tr α) (v : Option α) (r : Tr α)
  deriving Inhabited

/-- A choice that the kernel makes in one step. -/
@[reducible] noncomputable def sel {α : Type} (b : Bool) (x y : α) : α := @Bool.rec (fun _ => α) y x b

noncomputable def Tr.get {α : Type} (t : Tr α) : Nat → Option α :=
  @Tr.rec α (fun _ => Nat → Option α) (fun _ => none) (fun _ v _ gl gr i => @Bool.rec (fun _ => Option α) (@Bool.rec (fun _ => Option α) (gr (Nat.sub (Nat.div i 2) 1)) (gl (Nat.div i 2)) (Nat.beq (Nat.mod i 2) 1)) v (Nat.beq i 0)) t

noncomputable def Tr.setN {α : Type} (n : Nat) : Tr α → Nat → Option α → Tr α :=
  @Nat.rec (fun _ => Tr α → Nat → Option α → Tr α) (fun t _ _ => t) (fun _ ih t i x =>
    @Tr.rec α (fun _ => Tr α)
      (@Bool.rec (fun _ => Tr α) (@Bool.rec (fun _ => Tr α) (.node .nil none (ih .nil (Nat.sub (Nat.div i 2) 1) x)) (.node (ih .nil (Nat.div i 2) x) none .nil) (Nat.beq (Nat.mod i 2) 1)) (.node .nil x .nil) (Nat.beq i 0))
      (fun l v r _ _ => @Bool.rec (fun _ => Tr α) (@Bool.rec (fun _ => Tr α) (.node l v (ih r (Nat.sub (Nat.div i 2) 1) x)) (.node (ih l (Nat.div i 2) x) v r) (Nat.beq (Nat.mod i 2) 1)) (.node l x r) (Nat.beq i 0)) t) n
noncomputable def Tr.set {α : Type} (t : Tr α) (i : Nat) (x : Option α) : Tr α := Tr.setN (Nat.succ i) t i x

inductive SO where
  | cells (e : TypeId) (cs : List SV)
  | map (es : List (SV × SV × Nat)) (clock : Nat)
  | strIter (s : ByteArray) (pos : Nat)
  | mapIter (map : Option Nat) (since : Nat) (seen : List Nat) (stepped : Nat)
  | loop (nt : Nat) (tm : Tr SV) (params : List Nat) (assign body : Code) (state : LoopState) (pending : Option Code) (dfr : Nat)
  | dfr
  deriving Inhabited

structure FL where
  type : TypeId
  off : Nat
  named : Bool

/-- What a type is. -/
inductive UD where
  | bool | int (k : IntKind) | string | pointer | slice (e : TypeId) | array (n : Nat) (e : TypeId) | map (k e : TypeId) | struct (fs : List FL) | func | interface | other
  deriving Inhabited

structure TI where
  desc : UD
  size : Nat
  bytes : Nat
  zero : List SV
  comparable : Bool
  deriving Inhabited

/-- A call that is known: what it sees of the heap, what it returns and what it lays. -/
structure Mo where
  k : Nat
  as : List SV
  inp : List (Nat × SO)
  nx : Nat
  v : SV
  out : List (Nat × SO)
  nx' : Nat

structure Env where
  P : Program
  ty : Tr TI
  fn : Tr Func
  lt : List (SI × SI × Bool)
  eq : List (SI × SI × Bool)
  /-- Functions without arguments of which it is known what they return. -/
  done : List (Nat × SV) := []
  /-- Functions at whose end the ways are joined again. -/
  join : List Nat := []
  /-- Functions that sort, with the type of the slice: at no element or one they do nothing. -/
  tiny : List (Nat × Nat) := []
  /-- Calls that are known. -/
  memo : List Mo := []
  /-- Functions at whose call the run stops (for the writer of a proof). -/
  stop : List Nat := []

noncomputable def look (a b : SI) : List (SI × SI × Bool) → Option Bool
  | [] => none
  | (x, y, r) :: l => sel (x.eqb a && y.eqb b) (some r) (look a b l)

noncomputable def ltS (E : Env) (a b : SI) : Option Bool := look a b E.lt
noncomputable def ltI (E : Env) : SI → SI → Option Bool
  | .lit a, .lit b => some (intLt a b)
  | a, b => ltS E a b
noncomputable def eqS (E : Env) (a b : SI) : Option Bool := sel (a.eqb b) (some true) (look a b E.eq)
noncomputable def eqI (E : Env) : SI → SI → Option Bool
  | .lit x, .lit y => some (intB x y)
  | a, b => eqS E a b

noncomputable def runPure {α : Type} (P : Program) : Sem α → Option α
  | .pure a => some a
  | .program k => runPure P (k P)
  | _ => none

mutual
noncomputable def constSV : Value → SV
  | .bool b => .bool b
  | .int k n => .int k (.lit n)
  | .string s => .str s
  | .pointer none => .nilp
  | .slice none 0 0 => .nils
  | .map none => .nilm
  | .nilFunc => .nilf
  | .nilIface => .nili
  | .agg ⟨cs⟩ => sel (cs.all Value.oneCell') (.agg (constSVs cs)) .undef
  | .tuple ⟨cs⟩ => .tup (constSVs cs)
  | _ => .undef
noncomputable def constSVs : List Value → List SV
  | [] => []
  | v :: vs => constSV v :: constSVs vs
end

abbrev Hp := Tr SO
/-- A heap, as it is looked at. -/
abbrev Hf := Nat → Option SO

/-- A change of the heap: a block is laid, or given up. -/
abbrev Up := Nat × Option SO

/-- The state beside the slots: the heap, the next number, the numbers of the blocks that were written. -/
structure Hs where
  hp : Hp
  nx : Nat
  lg : List Nat
  deriving Inhabited

/-- Slots, as they are looked at. -/
abbrev Tf := Nat → Option SV

noncomputable def valA (tm : Tf) : Operand → Option SV
  | .tmp t => tm t
  | .const v => some (constSV v)
  | .global _ => none
  | .func f => some (.fn (.func f) [] [])

noncomputable def SV.cells (x : SV) : Option (List SV) := @SV.rec (fun _ => Option (List SV)) (fun _ => PUnit) (fun b => some [.bool b]) (fun k e => some [.int k e]) (fun s => some [.str s]) (fun i o => some [.ptr i o]) (some [.nilp]) (fun a b c d => some [.sl a b c d]) (some [.sle]) (some [.nils]) (fun i => some [.mp i]) (some [.nilm]) (fun f a c _ _ => some [.fn f a c]) (fun i => some [.yld i]) (some [.nilf]) (fun t v _ => some [.ifc t v]) (some [.nili]) (fun cs _ => some cs) (fun _ _ => none) (none) PUnit.unit (fun _ _ _ _ => PUnit.unit) x

noncomputable def isAggT (d : UD) : Bool := @UD.rec (fun _ => Bool) (false) (fun _ => false) (false) (false) (fun _ => false) (fun _ _ => true) (fun _ _ => false) (fun _ => true) (false) (false) (false) d

noncomputable def natI : SI → Option Nat
  | .lit (.ofNat n) => some n
  | _ => none
noncomputable def slOf (x : SV) : Option (Nat × Nat × Nat × Cp) := @SV.rec (fun _ => Option (Nat × Nat × Nat × Cp)) (fun _ => PUnit) (fun _ => none) (fun _ _ => none) (fun _ => none) (fun _ _ => none) (none) (fun i o n c => some (i, o, n, c)) (none) (none) (fun _ => none) (none) (fun _ _ _ _ _ => none) (fun _ => none) (none) (fun _ _ _ => none) (none) (fun _ _ => none) (fun _ _ => none) (none) PUnit.unit (fun _ _ _ _ => PUnit.unit) x
noncomputable def natOf (x : SV) : Option Nat := @SV.rec (fun _ => Option Nat) (fun _ => PUnit) (fun _ => none) (fun _ e => natI e) (fun _ => none) (fun _ _ => none) (none) (fun _ _ _ _ => none) (none) (none) (fun _ => none) (none) (fun _ _ _ _ _ => none) (fun _ => none) (none) (fun _ _ _ => none) (none) (fun _ _ => none) (fun _ _ => none) (none) PUnit.unit (fun _ _ _ _ => PUnit.unit) x
noncomputable def boolOf (x : SV) : Option Bool := @SV.rec (fun _ => Option Bool) (fun _ => PUnit) (fun b => some b) (fun _ _ => none) (fun _ => none) (fun _ _ => none) (none) (fun _ _ _ _ => none) (none) (none) (fun _ => none) (none) (fun _ _ _ _ _ => none) (fun _ => none) (none) (fun _ _ _ => none) (none) (fun _ _ => none) (fun _ _ => none) (none) PUnit.unit (fun _ _ _ _ => PUnit.unit) x
noncomputable def intOf (x : SV) : Option (IntKind × SI) := @SV.rec (fun _ => Option (IntKind × SI)) (fun _ => PUnit) (fun _ => none) (fun k e => some (k, e)) (fun _ => none) (fun _ _ => none) (none) (fun _ _ _ _ => none) (none) (none) (fun _ => none) (none) (fun _ _ _ _ _ => none) (fun _ => none) (none) (fun _ _ _ => none) (none) (fun _ _ => none) (fun _ _ => none) (none) PUnit.unit (fun _ _ _ _ => PUnit.unit) x
noncomputable def strOf (x : SV) : Option ByteArray := @SV.rec (fun _ => Option ByteArray) (fun _ => PUnit) (fun _ => none) (fun _ _ => none) (fun s => some s) (fun _ _ => none) (none) (fun _ _ _ _ => none) (none) (none) (fun _ => none) (none) (fun _ _ _ _ _ => none) (fun _ => none) (none) (fun _ _ _ => none) (none) (fun _ _ => none) (fun _ _ => none) (none) PUnit.unit (fun _ _ _ _ => PUnit.unit) x
noncomputable def ptrOf (x : SV) : Option (Nat × Nat) := @SV.rec (fun _ => Option (Nat × Nat)) (fun _ => PUnit) (fun _ => none) (fun _ _ => none) (fun _ => none) (fun i o => some (i, o)) (none) (fun _ _ _ _ => none) (none) (none) (fun _ => none) (none) (fun _ _ _ _ _ => none) (fun _ => none) (none) (fun _ _ _ => none) (none) (fun _ _ => none) (fun _ _ => none) (none) PUnit.unit (fun _ _ _ _ => PUnit.unit) x
noncomputable def aggOf (x : SV) : Option (List SV) := @SV.rec (fun _ => Option (List SV)) (fun _ => PUnit) (fun _ => none) (fun _ _ => none) (fun _ => none) (fun _ _ => none) (none) (fun _ _ _ _ => none) (none) (none) (fun _ => none) (none) (fun _ _ _ _ _ => none) (fun _ => none) (none) (fun _ _ _ => none) (none) (fun cs _ => some cs) (fun _ _ => none) (none) PUnit.unit (fun _ _ _ _ => PUnit.unit) x
noncomputable def tupOf (x : SV) : Option (List SV) := @SV.rec (fun _ => Option (List SV)) (fun _ => PUnit) (fun _ => none) (fun _ _ => none) (fun _ => none) (fun _ _ => none) (none) (fun _ _ _ _ => none) (none) (none) (fun _ => none) (none) (fun _ _ _ _ _ => none) (fun _ => none) (none) (fun _ _ _ => none) (none) (fun _ _ => none) (fun cs _ => some cs) (none) PUnit.unit (fun _ _ _ _ => PUnit.unit) x
noncomputable def mpOf (x : SV) : Option Nat := @SV.rec (fun _ => Option Nat) (fun _ => PUnit) (fun _ => none) (fun _ _ => none) (fun _ => none) (fun _ _ => none) (none) (fun _ _ _ _ => none) (none) (none) (fun i => some i) (none) (fun _ _ _ _ _ => none) (fun _ => none) (none) (fun _ _ _ => none) (none) (fun _ _ => none) (fun _ _ => none) (none) PUnit.unit (fun _ _ _ _ => PUnit.unit) x
noncomputable def lenS (x : SV) : Option Nat := @SV.rec (fun _ => Option Nat) (fun _ => PUnit) (fun _ => none) (fun _ _ => none) (fun _ => none) (fun _ _ => none) (none) (fun _ _ n _ => some n) (some 0) (some 0) (fun _ => none) (none) (fun _ _ _ _ _ => none) (fun _ => none) (none) (fun _ _ _ => none) (none) (fun _ _ => none) (fun _ _ => none) (none) PUnit.unit (fun _ _ _ _ => PUnit.unit) x
noncomputable def isSl (x : SV) : Bool := @SV.rec (fun _ => Bool) (fun _ => PUnit) (fun _ => false) (fun _ _ => false) (fun _ => false) (fun _ _ => false) (false) (fun _ _ _ _ => true) (true) (true) (fun _ => false) (false) (fun _ _ _ _ _ => false) (fun _ => false) (false) (fun _ _ _ => false) (false) (fun _ _ => false) (fun _ _ => false) (false) PUnit.unit (fun _ _ _ _ => PUnit.unit) x
noncomputable def nilOk (x : SV) : Option SV := @SV.rec (fun _ => Option SV) (fun _ => PUnit) (fun _ => none) (fun _ _ => none) (fun _ => none) (fun i o => some (.ptr i o)) (none) (fun _ _ _ _ => none) (none) (none) (fun _ => none) (none) (fun f a c _ _ => some (.fn f a c)) (fun l => some (.yld l)) (none) (fun _ _ _ => none) (none) (fun _ _ => none) (fun _ _ => none) (none) PUnit.unit (fun _ _ _ _ => PUnit.unit) x

noncomputable def partA (i : TI) (cs : List SV) (off : Nat) : Option SV :=
  sel (isAggT i.desc) (sel (Nat.ble (Nat.add off i.size) cs.length) (some (.agg ((cs.drop off).take i.size))) none) (cs[off]?)

noncomputable def splice (cs : List SV) (off : Nat) (xs : List SV) : List SV := cs.take off ++ xs ++ cs.drop (Nat.add off xs.length)

noncomputable def bind1 {α γ : Type} (x : Option α) (f : α → Option γ) : Option γ := @Option.rec α (fun _ => Option γ) none f x
noncomputable def bind2 {α β γ : Type} (x : Option α) (y : Option β) (f : α → β → Option γ) : Option γ := @Option.rec α (fun _ => Option γ) none (fun a => @Option.rec β (fun _ => Option γ) none (f a) y) x
noncomputable def bind3 {α β δ γ : Type} (x : Option α) (y : Option β) (z : Option δ) (f : α → β → δ → Option γ) : Option γ := bind1 x fun a => bind2 y z fun b c => f a b c

/-- On if equal so far. -/
noncomputable def andThen (r : Option Bool) (k : Option Bool) : Option Bool :=
  match r with
  | some true => k
  | r => r

noncomputable def eqFs (E : Env) (eq : TypeId → SV → SV → Option Bool) (xs ys : List SV) : List FL → Option Bool
  | [] => some true
  | f :: fs => sel f.named (bind1 (E.ty.get f.type) fun i => bind2 (partA i xs f.off) (partA i ys f.off) fun x y => andThen (eq f.type x y) (eqFs E eq xs ys fs)) none
noncomputable def eqBool (x y : SV) : Option Bool := bind2 (boolOf x) (boolOf y) fun a b => some (a == b)
noncomputable def eqInt (E : Env) (x y : SV) : Option Bool := bind2 (intOf x) (intOf y) fun a b => sel (kindB a.1 b.1) (eqI E a.2 b.2) none
noncomputable def bytesB : List UInt8 → List UInt8 → Bool
  | [], [] => true
  | a :: l, b :: m => Nat.beq a.toNat b.toNat && bytesB l m
  | _, _ => false
noncomputable def strB (a b : ByteArray) : Bool := bytesB a.data.toList b.data.toList
noncomputable def eqStr (x y : SV) : Option Bool := bind2 (strOf x) (strOf y) fun a b => some (strB a b)
noncomputable def eqPtr : SV → SV → Option Bool
  | .nilp, .nilp => some true
  | .nilp, .ptr _ _ => some false
  | .ptr _ _, .nilp => some false
  | _, _ => none
noncomputable def eqSl : SV → SV → Option Bool
  | .nils, .nils => some true
  | .nils, .sl _ _ _ _ => some false
  | .sl _ _ _ _, .nils => some false
  | _, _ => none
noncomputable def eqMap : SV → SV → Option Bool
  | .nilm, .nilm => some true
  | .nilm, .mp _ => some false
  | .mp _, .nilm => some false
  | _, _ => none
noncomputable def eqFn : SV → SV → Option Bool
  | .nilf, .nilf => some true
  | .nilf, .fn _ _ _ => some false
  | .fn _ _ _, .nilf => some false
  | _, _ => none
noncomputable def eqIfc (E : Env) (eq : TypeId → SV → SV → Option Bool) : SV → SV → Option Bool
  | .nili, .nili => some true
  | .nili, .ifc _ _ => some false
  | .ifc _ _, .nili => some false
  | .ifc t1 v1, .ifc t2 v2 => sel (Nat.beq t1 t2) (bind1 (E.ty.get t1) fun i1 => sel i1.comparable (eq t1 v1 v2) none) (some false)
  | _, _ => none
noncomputable def aggsOf (x y : SV) : Option (List SV × List SV) := bind2 (aggOf x) (aggOf y) fun xs ys => some (xs, ys)

noncomputable def eqStruct (E : Env) (eq : TypeId → SV → SV → Option Bool) (t : TypeId) (fs : List FL) (x y : SV) : Option Bool := bind1 (aggsOf x y) fun p => sel (E.P.stoodInHeld t) none (eqFs E eq p.1 p.2 fs)
noncomputable def eqD (d : UD) : Env → (TypeId → SV → SV → Option Bool) → TypeId → SV → SV → Option Bool := @UD.rec (fun _ => Env → (TypeId → SV → SV → Option Bool) → TypeId → SV → SV → Option Bool) (fun _ _ _ x y => eqBool x y) (fun _ => fun E _ _ x y => eqInt E x y) (fun _ _ _ x y => eqStr x y) (fun _ _ _ x y => eqPtr x y) (fun _ => fun _ _ _ x y => eqSl x y) (fun _ _ => fun _ _ _ _ _ => none) (fun _ _ => fun _ _ _ x y => eqMap x y) (fun fs => fun E eq t x y => eqStruct E eq t fs x y) (fun _ _ _ x y => eqFn x y) (fun E eq _ x y => eqIfc E eq x y) (fun _ _ _ _ _ => none) d

noncomputable def eqT (E : Env) (n : Nat) : TypeId → SV → SV → Option Bool :=
  @Nat.rec (fun _ => TypeId → SV → SV → Option Bool) (fun _ _ _ => none) (fun _ eq t x y => bind1 (E.ty.get t) fun i => eqD i.desc E eq t x y) n

noncomputable def isConst : Operand → Bool
  | .const _ => true
  | _ => false

/-- May '==' be asked here? Two nil values of an interface type are held against each other only with a literal. -/
noncomputable def eqOk (E : Env) (t : TypeId) (ox oy : Operand) (x : SV) : Bool :=
  match x with
  | .nili => isConst ox || isConst oy
  | .agg _ => !E.P.eqGuardType E.P.depth t
  | _ => true
noncomputable def eqOp (E : Env) (t : TypeId) (ox oy : Operand) (x y : SV) : Option Bool := sel (eqOk E t ox oy x) (eqT E 20 t x y) none

noncomputable def boolV (neg : Bool) (r : Option Bool) : Option SV := bind1 r fun b => some (.bool (sel neg (!b) b))

noncomputable def pureV (r : Option Value) : Option SV := bind1 r fun v => some (constSV v)
noncomputable def litOp (E : Env) (op : BinOp) (t : TypeId) (k k' : IntKind) : SI → SI → Option SV
  | .lit m, .lit n => pureV (runPure E.P (binOp op t (.int k m) (.int k' n)))
  | _, _ => none
noncomputable def addI (k : IntKind) : SI → SI → SI
  | .lit m, .lit n => .lit (k.wrap (m + n))
  | a, b => .add k a b
noncomputable def subI (k : IntKind) : SI → SI → SI
  | .lit m, .lit n => .lit (k.wrap (m - n))
  | a, b => .sub k a b
noncomputable def intOp (o : BinOp) : Env → BinOp → TypeId → IntKind → IntKind → SI → SI → Option SV := @BinOp.rec (fun _ => Env → BinOp → TypeId → IntKind → IntKind → SI → SI → Option SV) (fun _ _ _ k k2 a b => sel (kindB k k2) (some (.int k (addI k a b))) none) (fun _ _ _ k k2 a b => sel (kindB k k2) (some (.int k (subI k a b))) none) (fun E op t k k2 a b => litOp E op t k k2 a b) (fun E op t k k2 a b => litOp E op t k k2 a b) (fun E op t k k2 a b => litOp E op t k k2 a b) (fun E op t k k2 a b => litOp E op t k k2 a b) (fun E op t k k2 a b => litOp E op t k k2 a b) (fun E op t k k2 a b => litOp E op t k k2 a b) (fun E op t k k2 a b => litOp E op t k k2 a b) (fun E op t k k2 a b => litOp E op t k k2 a b) (fun E op t k k2 a b => litOp E op t k k2 a b) (fun E _ _ k k2 a b => sel (kindB k k2) (boolV false (eqI E a b)) none) (fun E _ _ k k2 a b => sel (kindB k k2) (boolV true (eqI E a b)) none) (fun E _ _ k k2 a b => sel (kindB k k2) (boolV false (ltI E a b)) none) (fun E _ _ k k2 a b => sel (kindB k k2) (boolV true (ltI E b a)) none) (fun E _ _ k k2 a b => sel (kindB k k2) (boolV false (ltI E b a)) none) (fun E _ _ k k2 a b => sel (kindB k k2) (boolV true (ltI E a b)) none) o
noncomputable def strOp (o : BinOp) : Env → BinOp → TypeId → ByteArray → ByteArray → Option SV := @BinOp.rec (fun _ => Env → BinOp → TypeId → ByteArray → ByteArray → Option SV) (fun E op t a b => pureV (runPure E.P (binOp op t (.string a) (.string b)))) (fun E op t a b => pureV (runPure E.P (binOp op t (.string a) (.string b)))) (fun E op t a b => pureV (runPure E.P (binOp op t (.string a) (.string b)))) (fun E op t a b => pureV (runPure E.P (binOp op t (.string a) (.string b)))) (fun E op t a b => pureV (runPure E.P (binOp op t (.string a) (.string b)))) (fun E op t a b => pureV (runPure E.P (binOp op t (.string a) (.string b)))) (fun E op t a b => pureV (runPure E.P (binOp op t (.string a) (.string b)))) (fun E op t a b => pureV (runPure E.P (binOp op t (.string a) (.string b)))) (fun E op t a b => pureV (runPure E.P (binOp op t (.string a) (.string b)))) (fun E op t a b => pureV (runPure E.P (binOp op t (.string a) (.string b)))) (fun E op t a b => pureV (runPure E.P (binOp op t (.string a) (.string b)))) (fun _ _ _ a b => some (.bool (strB a b))) (fun _ _ _ a b => some (.bool (!strB a b))) (fun E op t a b => pureV (runPure E.P (binOp op t (.string a) (.string b)))) (fun E op t a b => pureV (runPure E.P (binOp op t (.string a) (.string b)))) (fun E op t a b => pureV (runPure E.P (binOp op t (.string a) (.string b)))) (fun E op t a b => pureV (runPure E.P (binOp op t (.string a) (.string b)))) o
noncomputable def otherOp (o : BinOp) : Env → TypeId → Operand → Operand → SV → SV → Option SV := @BinOp.rec (fun _ => Env → TypeId → Operand → Operand → SV → SV → Option SV) (fun _ _ _ _ _ _ => none) (fun _ _ _ _ _ _ => none) (fun _ _ _ _ _ _ => none) (fun _ _ _ _ _ _ => none) (fun _ _ _ _ _ _ => none) (fun _ _ _ _ _ _ => none) (fun _ _ _ _ _ _ => none) (fun _ _ _ _ _ _ => none) (fun _ _ _ _ _ _ => none) (fun _ _ _ _ _ _ => none) (fun _ _ _ _ _ _ => none) (fun E t ox oy x y => boolV false (eqOp E t ox oy x y)) (fun E t ox oy x y => boolV true (eqOp E t ox oy x y)) (fun _ _ _ _ _ _ => none) (fun _ _ _ _ _ _ => none) (fun _ _ _ _ _ _ => none) (fun _ _ _ _ _ _ => none) o
noncomputable def binInt (E : Env) (op : BinOp) (t : TypeId) (k : IntKind) (a : SI) (y : SV) : Option SV := bind1 (intOf y) fun p => intOp op E op t k p.1 a p.2
noncomputable def binStr (E : Env) (op : BinOp) (t : TypeId) (a : ByteArray) (y : SV) : Option SV := bind1 (strOf y) fun b => strOp op E op t a b
noncomputable def binV (x : SV) : Env → BinOp → TypeId → Operand → Operand → SV → SV → Option SV := @SV.rec (fun _ => Env → BinOp → TypeId → Operand → Operand → SV → SV → Option SV) (fun _ => PUnit) (fun _ => fun E op t ox oy x y => otherOp op E t ox oy x y) (fun k a => fun E op t _ _ _ y => binInt E op t k a y) (fun a => fun E op t _ _ _ y => binStr E op t a y) (fun _ _ => fun E op t ox oy x y => otherOp op E t ox oy x y) (fun E op t ox oy x y => otherOp op E t ox oy x y) (fun _ _ _ _ => fun E op t ox oy x y => otherOp op E t ox oy x y) (fun E op t ox oy x y => otherOp op E t ox oy x y) (fun E op t ox oy x y => otherOp op E t ox oy x y) (fun _ => fun E op t ox oy x y => otherOp op E t ox oy x y) (fun E op t ox oy x y => otherOp op E t ox oy x y) (fun _ _ _ _ _ => fun E op t ox oy x y => otherOp op E t ox oy x y) (fun _ => fun E op t ox oy x y => otherOp op E t ox oy x y) (fun E op t ox oy x y => otherOp op E t ox oy x y) (fun _ _ _ => fun E op t ox oy x y => otherOp op E t ox oy x y) (fun E op t ox oy x y => otherOp op E t ox oy x y) (fun _ _ => fun E op t ox oy x y => otherOp op E t ox oy x y) (fun _ _ => fun E op t ox oy x y => otherOp op E t ox oy x y) (fun E op t ox oy x y => otherOp op E t ox oy x y) PUnit.unit (fun _ _ _ _ => PUnit.unit) x
noncomputable def binA (E : Env) (op : BinOp) (t : TypeId) (ox oy : Operand) (x y : SV) : Option SV := binV x E op t ox oy x y

noncomputable def convI (k : IntKind) : SI → SI
  | .lit n => .lit (k.wrap n)
  | e => .conv k e
noncomputable def convD (d : UD) : SV → Option SV := @UD.rec (fun _ => SV → Option SV) (fun _ => none) (fun k => fun x => bind1 (intOf x) fun p => some (.int k (convI k p.2))) (fun x => bind1 (strOf x) fun s => some (.str s)) (fun _ => none) (fun _ => fun _ => none) (fun _ _ => fun _ => none) (fun _ _ => fun _ => none) (fun _ => fun _ => none) (fun _ => none) (fun _ => none) (fun _ => none) d
noncomputable def convA (E : Env) (src dst : TypeId) (x : SV) : Option SV := bind2 (E.ty.get src) (E.ty.get dst) fun _ i => convD i.desc x

noncomputable def isNot : UnOp → Bool
  | .not => true
  | _ => false
noncomputable def isNeg : UnOp → Bool
  | .neg => true
  | _ => false
noncomputable def unV (x : SV) : UnOp → Option SV := @SV.rec (fun _ => UnOp → Option SV) (fun _ => PUnit) (fun b => fun op => sel (isNot op) (some (.bool (!b))) none) (fun k e => fun op => sel (isNeg op) (some (.int k (subI k (.lit 0) e))) none) (fun _ => fun _ => none) (fun _ _ => fun _ => none) (fun _ => none) (fun _ _ _ _ => fun _ => none) (fun _ => none) (fun _ => none) (fun _ => fun _ => none) (fun _ => none) (fun _ _ _ _ _ => fun _ => none) (fun _ => fun _ => none) (fun _ => none) (fun _ _ _ => fun _ => none) (fun _ => none) (fun _ _ => fun _ => none) (fun _ _ => fun _ => none) (fun _ => none) PUnit.unit (fun _ _ _ _ => PUnit.unit) x
noncomputable def unA (op : UnOp) (x : SV) : Option SV := unV x op

noncomputable def fillA (place : Nat → Option (Nat × Nat)) (cs : List SV) : List (Nat × List SV) → Option (List SV)
  | [] => some cs
  | p :: rest => bind1 (place p.1) fun q => sel (Nat.beq p.2.length q.2 && Nat.ble (Nat.add q.1 q.2) cs.length) (fillA place (splice cs q.1 p.2) rest) none

noncomputable def partsA (tm : Tf) : List (Nat × Operand) → Option (List (Nat × List SV))
  | [] => some []
  | p :: rest => bind1 (valA tm p.2) fun v => bind2 v.cells (partsA tm rest) fun cs l => some ((p.1, cs) :: l)

noncomputable def rep (z : List SV) : Nat → List SV
  | 0 => []
  | n + 1 => z ++ rep z n

noncomputable def placeF (E : Env) (fs : List FL) (j : Nat) : Option (Nat × Nat) := bind1 (fs[j]?) fun f => bind1 (E.ty.get f.type) fun fi => some (f.off, fi.size)
noncomputable def placeE (size : Nat) (j : Nat) : Option (Nat × Nat) := some (Nat.mul j size, size)
noncomputable def aggV (r : Option (List SV)) : Option SV := bind1 r fun cs => some (.agg cs)
noncomputable def buildD (d : UD) : Env → List SV → List (Nat × List SV) → Option SV := @UD.rec (fun _ => Env → List SV → List (Nat × List SV) → Option SV) (fun _ _ _ => none) (fun _ => fun _ _ _ => none) (fun _ _ _ => none) (fun _ _ _ => none) (fun _ => fun _ _ _ => none) (fun _ e => fun E z pcs => bind1 (E.ty.get e) fun ie => aggV (fillA (placeE ie.size) z pcs)) (fun _ _ => fun _ _ _ => none) (fun fs => fun E z pcs => aggV (fillA (placeF E fs) z pcs)) (fun _ _ _ => none) (fun _ _ _ => none) (fun _ _ _ => none) d
noncomputable def buildA (E : Env) (t : TypeId) (pcs : List (Nat × List SV)) : Option SV := bind1 (E.ty.get t) fun i => buildD i.desc E i.zero pcs

noncomputable def Hs.up (h : Hs) (u : Up) : Hs := ⟨h.hp.set u.1 u.2, h.nx, u.1 :: h.lg⟩
noncomputable def Hs.ups (h : Hs) (us : List Up) : Hs := @List.rec Up (fun _ => Hs → Hs) (fun h => h) (fun u _ ih h => ih (h.up u)) us h
noncomputable def Hs.put (h : Hs) (id : Nat) (o : SO) : Hs := h.up (id, some o)
noncomputable def Hs.bump (h : Hs) : Hs := ⟨h.hp, Nat.add h.nx 1, h.lg⟩
/-- The changes are made; a number more is taken if there are any. -/
noncomputable def Hs.fin (h : Hs) (us : List Up) : Hs := @List.rec Up (fun _ => Hs) h (fun _ _ _ => (h.ups us).bump) us

noncomputable def cellsO : Option SO → Option (TypeId × List SV)
  | some (.cells e cs) => some (e, cs)
  | _ => none
noncomputable def cellsAt (h : Hf) (id off n : Nat) : Option (List SV) := bind1 (cellsO (h id)) fun p => sel (Nat.ble (Nat.add off n) p.2.length) (some ((p.2.drop off).take n)) none

/-- The cells that a slice shows. -/
noncomputable def rowOf (x : SV) : Hf → Nat → Option (List SV) := @SV.rec (fun _ => Hf → Nat → Option (List SV)) (fun _ => PUnit) (fun _ => fun _ _ => none) (fun _ _ => fun _ _ => none) (fun _ => fun _ _ => none) (fun _ _ => fun _ _ => none) (fun _ _ => none) (fun i o n _ => fun h size => cellsAt h i o (Nat.mul n size)) (fun _ _ => some []) (fun _ _ => some []) (fun _ => fun _ _ => none) (fun _ _ => none) (fun _ _ _ _ _ => fun _ _ => none) (fun _ => fun _ _ => none) (fun _ _ => none) (fun _ _ _ => fun _ _ => none) (fun _ _ => none) (fun _ _ => fun _ _ => none) (fun _ _ => fun _ _ => none) (fun _ _ => none) PUnit.unit (fun _ _ _ _ => PUnit.unit) x
noncomputable def loadA (E : Env) (h : Hf) (t : TypeId) (v : SV) : Option SV := bind1 (ptrOf v) fun q => bind2 (E.ty.get t) (cellsO (h q.1)) fun i p => partA i p.2 q.2

noncomputable def storeA (E : Env) (h : Hf) (t : TypeId) (v : SV) (a : SV) : Option (List Up) :=
  bind1 (ptrOf a) fun q => bind3 (E.ty.get t) v.cells (cellsO (h q.1)) fun i xs p => sel (Nat.beq xs.length i.size && Nat.ble (Nat.add q.2 xs.length) p.2.length) (some [(q.1, some (.cells p.1 (splice p.2 q.2 xs)))]) none

noncomputable def elemPtr (E : Env) (e : TypeId) (id off n k : Nat) : Option SV := sel (Nat.ble (Nat.succ k) n) (bind1 (E.ty.get e) fun ie => some (.ptr id (Nat.add off (Nat.mul k ie.size)))) none
noncomputable def indexAddrD (d : UD) : Env → SV → Nat → Option SV := @UD.rec (fun _ => Env → SV → Nat → Option SV) (fun _ _ _ => none) (fun _ => fun _ _ _ => none) (fun _ _ _ => none) (fun _ _ _ => none) (fun e => fun E x k => bind1 (slOf x) fun q => elemPtr E e q.1 q.2.1 q.2.2.1 k) (fun n e => fun E x k => bind1 (ptrOf x) fun q => elemPtr E e q.1 q.2 n k) (fun _ _ => fun _ _ _ => none) (fun _ => fun _ _ _ => none) (fun _ _ _ => none) (fun _ _ _ => none) (fun _ _ _ => none) d
noncomputable def indexAddrA (E : Env) (t : TypeId) (x : SV) (k : Nat) : Option SV := bind1 (E.ty.get t) fun i => indexAddrD i.desc E x k

noncomputable def optNat (tm : Tf) : Option Operand → Option (Option Nat)
  | none => some none
  | some x => bind1 (valA tm x) fun v => bind1 (natOf v) fun n => some (some n)

noncomputable def subC (m : Cp) (l : Nat) : Cp :=
  match m with
  | .k c => .k (Nat.sub c l)
  | .u e => .u e
/-- A slice of what has its cells at off, from l to h; m: its capacity from the beginning on. -/
noncomputable def cutS (id off l h size : Nat) (m : Cp) : SV := sel (Nat.beq l 0) (.sl id off h m) (sel (Nat.ble (Nat.succ l) h) (.sl id (Nat.add off (Nat.mul l size)) (Nat.sub h l) (subC m l)) .sle)
noncomputable def maxOk (mx : Option Nat) (h reach : Nat) : Bool :=
  match mx with
  | some m => Nat.ble h m && Nat.ble m reach
  | none => true
noncomputable def orC (a : Option Nat) (b : Cp) : Cp :=
  match a with
  | some m => .k m
  | none => b
/-- How far a slice surely reaches. -/
noncomputable def reach (c : Cp) (n : Nat) : Nat :=
  match c with
  | .k m => m
  | .u _ => n
noncomputable def typeOk (c : Cp) (e : TypeId) : Bool :=
  match c with
  | .k _ => true
  | .u e' => Nat.beq e' e
noncomputable def sliceSl (E : Env) (e : TypeId) (id off n : Nat) (cap : Cp) (lo hi mx : Option Nat) : Option SV :=
  bind1 (E.ty.get e) fun ie => sel (typeOk cap e && (Nat.ble (lo.getD 0) (hi.getD n) && (Nat.ble (hi.getD n) (reach cap n) && maxOk mx (hi.getD n) (reach cap n)))) (some (cutS id off (lo.getD 0) (hi.getD n) ie.size (orC mx cap))) none
noncomputable def sliceStr (s : ByteArray) (lo hi mx : Option Nat) : Option SV :=
  match mx with
  | some _ => none
  | none => sel (Nat.ble (lo.getD 0) (hi.getD s.size) && Nat.ble (hi.getD s.size) s.size) (some (.str (s.extract (lo.getD 0) (hi.getD s.size)))) none
noncomputable def zeroO : Option Nat → Bool
  | some n => Nat.beq n 0
  | none => true
noncomputable def sliceV (x : SV) : Env → TypeId → Option Nat → Option Nat → Option Nat → Option SV := @SV.rec (fun _ => Env → TypeId → Option Nat → Option Nat → Option Nat → Option SV) (fun _ => PUnit) (fun _ => fun _ _ _ _ _ => none) (fun _ _ => fun _ _ _ _ _ => none) (fun _ => fun _ _ _ _ _ => none) (fun _ _ => fun _ _ _ _ _ => none) (fun _ _ _ _ _ => none) (fun i o n c => fun E e lo hi mx => sliceSl E e i o n c lo hi mx) (fun _ _ lo hi mx => sel (zeroO lo && (zeroO hi && mx.isNone)) (some .sle) none) (fun _ _ lo hi mx => sel (zeroO lo && (zeroO hi && zeroO mx)) (some .nils) none) (fun _ => fun _ _ _ _ _ => none) (fun _ _ _ _ _ => none) (fun _ _ _ _ _ => fun _ _ _ _ _ => none) (fun _ => fun _ _ _ _ _ => none) (fun _ _ _ _ _ => none) (fun _ _ _ => fun _ _ _ _ _ => none) (fun _ _ _ _ _ => none) (fun _ _ => fun _ _ _ _ _ => none) (fun _ _ => fun _ _ _ _ _ => none) (fun _ _ _ _ _ => none) PUnit.unit (fun _ _ _ _ => PUnit.unit) x
noncomputable def sliceD (d : UD) : Env → SV → Option Nat → Option Nat → Option Nat → Option SV := @UD.rec (fun _ => Env → SV → Option Nat → Option Nat → Option Nat → Option SV) (fun _ _ _ _ _ => none) (fun _ => fun _ _ _ _ _ => none) (fun _ x lo hi mx => bind1 (strOf x) fun s => sliceStr s lo hi mx) (fun _ _ _ _ _ => none) (fun e => fun E x lo hi mx => bind1 (E.ty.get e) fun _ => sliceV x E e lo hi mx) (fun n e => fun E x lo hi mx => bind1 (ptrOf x) fun q => sliceSl E e q.1 q.2 n (.k n) lo hi mx) (fun _ _ => fun _ _ _ _ _ => none) (fun _ => fun _ _ _ _ _ => none) (fun _ _ _ _ _ => none) (fun _ _ _ _ _ => none) (fun _ _ _ _ _ => none) d
noncomputable def maxHi (hi mx : Option Nat) : Bool :=
  match mx with
  | some _ => hi.isSome
  | none => true
noncomputable def sliceA (E : Env) (t : TypeId) (x : SV) (lo hi mx : Option Nat) : Option SV := bind1 (E.ty.get t) fun i => sel (maxHi hi mx) (sliceD i.desc E x lo hi mx) none

noncomputable def bytesSV (s : ByteArray) : List SV := s.data.toList.map fun b => .int .u8 (.lit b.toNat)
/-- What is appended or copied: how many elements, and their cells. -/
noncomputable def srcRow (h : Hf) (size : Nat) (x : SV) : Option (Nat × List SV) := bind2 (lenS x) (rowOf x h size) fun n xs => some (n, xs)
noncomputable def srcV (x : SV) : Hf → Nat → SV → Option (Nat × List SV) := @SV.rec (fun _ => Hf → Nat → SV → Option (Nat × List SV)) (fun _ => PUnit) (fun _ => fun h size x => srcRow h size x) (fun _ _ => fun h size x => srcRow h size x) (fun b => fun _ size _ => sel (Nat.beq size 1) (some (b.size, bytesSV b)) none) (fun _ _ => fun h size x => srcRow h size x) (fun h size x => srcRow h size x) (fun _ _ _ _ => fun h size x => srcRow h size x) (fun h size x => srcRow h size x) (fun h size x => srcRow h size x) (fun _ => fun h size x => srcRow h size x) (fun h size x => srcRow h size x) (fun _ _ _ _ _ => fun h size x => srcRow h size x) (fun _ => fun h size x => srcRow h size x) (fun h size x => srcRow h size x) (fun _ _ _ => fun h size x => srcRow h size x) (fun h size x => srcRow h size x) (fun _ _ => fun h size x => srcRow h size x) (fun _ _ => fun h size x => srcRow h size x) (fun h size x => srcRow h size x) PUnit.unit (fun _ _ _ _ => PUnit.unit) x
noncomputable def srcOf (h : Hf) (size : Nat) (x : SV) : Option (Nat × List SV) := srcV x h size x

noncomputable def elemOk (ie : TI) : Bool := Nat.ble ie.bytes 65536 && (Nat.ble 1 ie.size && Nat.beq ie.zero.length ie.size)
noncomputable def newSl (new : Nat) (e : TypeId) (n : Nat) (cs : List SV) (us : List Up) : Option (SV × List Up) := some (.sl new 0 n (.u e), us ++ [(new, some (.cells e cs))])
noncomputable def appSl (new : Nat) (e : TypeId) (size id off n : Nat) (cap : Cp) (m : Nat) (xs : List SV) (p : TypeId × List SV) (old : List SV) : Option (SV × List Up) :=
  match cap with
  | .k c =>
    sel (Nat.ble (Nat.add n m) c)
      (sel (Nat.ble (Nat.add off (Nat.mul (Nat.add n m) size)) p.2.length) (some (.sl id off (Nat.add n m) cap, [(id, some (.cells p.1 (splice p.2 (Nat.add off (Nat.mul n size)) xs)))])) none)
      (newSl new e (Nat.add n m) (old ++ xs) [])
  | .u _ => sel (Nat.beq (Nat.add off (Nat.mul n size)) p.2.length && Nat.beq e p.1) (newSl new e (Nat.add n m) (old ++ xs) [(id, none)]) none
/-- 'append': in place where there is surely room; a new block where there surely is none; else a new number for the block, and the old one is given up. -/
noncomputable def appAt (h : Hf) (new : Nat) (e : TypeId) (size m : Nat) (xs : List SV) (id off n : Nat) (cap : Cp) : Option (SV × List Up) := sel (Nat.ble n 1000000) (bind2 (cellsO (h id)) (cellsAt h id off (Nat.mul n size)) fun p old => appSl new e size id off n cap m xs p old) none
noncomputable def appTo (x : SV) : Hf → Nat → TypeId → Nat → Nat → List SV → Option (SV × List Up) := @SV.rec (fun _ => Hf → Nat → TypeId → Nat → Nat → List SV → Option (SV × List Up)) (fun _ => PUnit) (fun _ => fun _ _ _ _ _ _ => none) (fun _ _ => fun _ _ _ _ _ _ => none) (fun _ => fun _ _ _ _ _ _ => none) (fun _ _ => fun _ _ _ _ _ _ => none) (fun _ _ _ _ _ _ => none) (fun i o n c => fun h new e size m xs => appAt h new e size m xs i o n c) (fun _ _ _ _ _ _ => none) (fun _ new e _ m xs => newSl new e m xs []) (fun _ => fun _ _ _ _ _ _ => none) (fun _ _ _ _ _ _ => none) (fun _ _ _ _ _ => fun _ _ _ _ _ _ => none) (fun _ => fun _ _ _ _ _ _ => none) (fun _ _ _ _ _ _ => none) (fun _ _ _ => fun _ _ _ _ _ _ => none) (fun _ _ _ _ _ _ => none) (fun _ _ => fun _ _ _ _ _ _ => none) (fun _ _ => fun _ _ _ _ _ _ => none) (fun _ _ _ _ _ _ => none) PUnit.unit (fun _ _ _ _ => PUnit.unit) x
noncomputable def appendE (E : Env) (h : Hf) (new : Nat) (e : TypeId) (s x : SV) : Option (SV × List Up) :=
  bind1 (E.ty.get e) fun ie => sel (elemOk ie) (bind1 (srcOf h ie.size x) fun q => sel (Nat.ble q.1 1000000) (sel (Nat.beq q.1 0) (sel (isSl s) (some (s, [])) none) (appTo s h new e ie.size q.1 q.2)) none) none
noncomputable def sliceE (d : UD) : Option TypeId := @UD.rec (fun _ => Option TypeId) (none) (fun _ => none) (none) (none) (fun e => some e) (fun _ _ => none) (fun _ _ => none) (fun _ => none) (none) (none) (none) d
noncomputable def appendA (E : Env) (h : Hf) (new : Nat) (t : TypeId) (s x : SV) : Option (SV × List Up) := bind1 (E.ty.get t) fun i => bind1 (sliceE i.desc) fun e => appendE E h new e s x

noncomputable def copyAt (h : Hf) (size n : Nat) (xs : List SV) (id off : Nat) : Option (SV × List Up) := bind1 (cellsO (h id)) fun p => sel (Nat.ble (Nat.add off (Nat.mul n size)) p.2.length) (some (.int .i64 (.lit (.ofNat n)), [(id, some (.cells p.1 (splice p.2 off (xs.take (Nat.mul n size)))))])) none
noncomputable def copyTo (x : SV) : Hf → Nat → Nat → List SV → Option (SV × List Up) := @SV.rec (fun _ => Hf → Nat → Nat → List SV → Option (SV × List Up)) (fun _ => PUnit) (fun _ => fun _ _ _ _ => none) (fun _ _ => fun _ _ _ _ => none) (fun _ => fun _ _ _ _ => none) (fun _ _ => fun _ _ _ _ => none) (fun _ _ _ _ => none) (fun i o _ _ => fun h size n xs => copyAt h size n xs i o) (fun _ _ n _ => some (.int .i64 (.lit (.ofNat n)), [])) (fun _ _ n _ => some (.int .i64 (.lit (.ofNat n)), [])) (fun _ => fun _ _ _ _ => none) (fun _ _ _ _ => none) (fun _ _ _ _ _ => fun _ _ _ _ => none) (fun _ => fun _ _ _ _ => none) (fun _ _ _ _ => none) (fun _ _ _ => fun _ _ _ _ => none) (fun _ _ _ _ => none) (fun _ _ => fun _ _ _ _ => none) (fun _ _ => fun _ _ _ _ => none) (fun _ _ _ _ => none) PUnit.unit (fun _ _ _ _ => PUnit.unit) x
noncomputable def copyE (E : Env) (h : Hf) (e : TypeId) (d s : SV) : Option (SV × List Up) :=
  bind1 (E.ty.get e) fun ie => sel (elemOk ie) (bind2 (lenS d) (srcOf h ie.size s) fun nd q => copyTo d h ie.size (sel (Nat.ble q.1 nd) q.1 nd) q.2) none
noncomputable def copyA (E : Env) (h : Hf) (t : TypeId) (d s : SV) : Option (SV × List Up) := bind1 (E.ty.get t) fun i => bind1 (sliceE i.desc) fun e => copyE E h e d s

/-- Keys that are known to the letter. -/
noncomputable def isIntD (d : UD) : Bool := @UD.rec (fun _ => Bool) (false) (fun _ => true) (false) (false) (fun _ => false) (fun _ _ => false) (fun _ _ => false) (fun _ => false) (false) (false) (false) d
noncomputable def isStrD (d : UD) : Bool := @UD.rec (fun _ => Bool) (false) (fun _ => false) (true) (false) (fun _ => false) (fun _ _ => false) (fun _ _ => false) (fun _ => false) (false) (false) (false) d
noncomputable def isBoolD (d : UD) : Bool := @UD.rec (fun _ => Bool) (true) (fun _ => false) (false) (false) (fun _ => false) (fun _ _ => false) (fun _ _ => false) (fun _ => false) (false) (false) (false) d
noncomputable def isLit : SI → Bool
  | .lit _ => true
  | _ => false
noncomputable def intK (k : IntKind) : UD → Bool
  | .int k' => kindB k k'
  | _ => false
noncomputable def litKey (x : SV) : UD → Bool := @SV.rec (fun _ => UD → Bool) (fun _ => PUnit) (fun _ => fun d => isBoolD d) (fun k e => fun d => isLit e && intK k d) (fun _ => fun d => isStrD d) (fun _ _ => fun _ => false) (fun _ => false) (fun _ _ _ _ => fun _ => false) (fun _ => false) (fun _ => false) (fun _ => fun _ => false) (fun _ => false) (fun _ _ _ _ _ => fun _ => false) (fun _ => fun _ => false) (fun _ => false) (fun _ _ _ => fun _ => false) (fun _ => false) (fun _ _ => fun _ => false) (fun _ _ => fun _ => false) (fun _ => false) PUnit.unit (fun _ _ _ _ => PUnit.unit) x
noncomputable def sameI : SI → SI → Option Bool
  | .lit a, .lit b => some (intB a b)
  | _, _ => none
noncomputable def sameKey (x : SV) : SV → Option Bool := @SV.rec (fun _ => SV → Option Bool) (fun _ => PUnit) (fun a => fun y => eqBool (.bool a) y) (fun k a => fun y => bind1 (intOf y) fun p => sel (kindB k p.1) (sameI a p.2) none) (fun a => fun y => eqStr (.str a) y) (fun _ _ => fun _ => none) (fun _ => none) (fun _ _ _ _ => fun _ => none) (fun _ => none) (fun _ => none) (fun _ => fun _ => none) (fun _ => none) (fun _ _ _ _ _ => fun _ => none) (fun _ => fun _ => none) (fun _ => none) (fun _ _ _ => fun _ => none) (fun _ => none) (fun _ _ => fun _ => none) (fun _ _ => fun _ => none) (fun _ => none) PUnit.unit (fun _ _ _ _ => PUnit.unit) x
noncomputable def findK (k : SV) : List (SV × SV × Nat) → Nat → Option (Option (Nat × SV × Nat))
  | [], _ => some none
  | e :: es, i =>
    match sameKey k e.1 with
    | some true => some (some (i, e.2.1, e.2.2))
    | some false => findK k es (Nat.add i 1)
    | none => none
noncomputable def mapO : Option SO → Option (List (SV × SV × Nat) × Nat)
  | some (.map es c) => some (es, c)
  | _ => none
noncomputable def entsOf (x : SV) : Hf → Option (List (SV × SV × Nat)) := @SV.rec (fun _ => Hf → Option (List (SV × SV × Nat))) (fun _ => PUnit) (fun _ => fun _ => none) (fun _ _ => fun _ => none) (fun _ => fun _ => none) (fun _ _ => fun _ => none) (fun _ => none) (fun _ _ _ _ => fun _ => none) (fun _ => none) (fun _ => none) (fun i => fun h => bind1 (mapO (h i)) fun p => some p.1) (fun _ => some []) (fun _ _ _ _ _ => fun _ => none) (fun _ => fun _ => none) (fun _ => none) (fun _ _ _ => fun _ => none) (fun _ => none) (fun _ _ => fun _ => none) (fun _ _ => fun _ => none) (fun _ => none) PUnit.unit (fun _ _ _ _ => PUnit.unit) x
noncomputable def okV (ok : Bool) (v : SV) (b : Bool) : SV := sel ok (.tup [v, .bool b]) v
noncomputable def foundV (ok : Bool) (z : Option SV) : Option (Nat × SV × Nat) → Option SV
  | some r => some (okV ok r.2.1 true)
  | none => bind1 z fun z => some (okV ok z false)
noncomputable def mapE (d : UD) : Option (TypeId × TypeId) := @UD.rec (fun _ => Option (TypeId × TypeId)) (none) (fun _ => none) (none) (none) (fun _ => none) (fun _ _ => none) (fun k e => some (k, e)) (fun _ => none) (none) (none) (none) d
noncomputable def lookupA (E : Env) (h : Hf) (t : TypeId) (x k : SV) (ok : Bool) : Option SV :=
  bind1 (E.ty.get t) fun i => bind1 (mapE i.desc) fun q => bind2 (E.ty.get q.1) (E.ty.get q.2) fun ik ie => sel (litKey k ik.desc) (bind1 (entsOf x h) fun es => bind1 (findK k es 0) fun r => foundV ok (partA ie ie.zero 0) r) none
noncomputable def updE (es : List (SV × SV × Nat)) (c : Nat) (k v : SV) : Option (Nat × SV × Nat) → SO
  | some r => .map (es.set r.1 (k, v, r.2.2)) c
  | none => .map (es ++ [(k, v, c)]) (Nat.add c 1)
noncomputable def updA (E : Env) (h : Hf) (t : TypeId) (x k v : SV) : Option (List Up) :=
  bind1 (mpOf x) fun id => bind1 (E.ty.get t) fun i => bind1 (mapE i.desc) fun q => bind2 (E.ty.get q.1) (mapO (h id)) fun ik p => sel (litKey k ik.desc) (bind1 (findK k p.1 0) fun r => some [(id, some (updE p.1 p.2 k v r))]) none

noncomputable def litN (n : Nat) : SV := .int .i64 (.lit (.ofNat n))
noncomputable def lenM (x : SV) : Hf → Option SV := @SV.rec (fun _ => Hf → Option SV) (fun _ => PUnit) (fun _ => fun _ => none) (fun _ _ => fun _ => none) (fun _ => fun _ => none) (fun _ _ => fun _ => none) (fun _ => none) (fun _ _ _ _ => fun _ => none) (fun _ => none) (fun _ => none) (fun i => fun h => bind1 (mapO (h i)) fun p => some (litN p.1.length)) (fun _ => some (litN 0)) (fun _ _ _ _ _ => fun _ => none) (fun _ => fun _ => none) (fun _ => none) (fun _ _ _ => fun _ => none) (fun _ => none) (fun _ _ => fun _ => none) (fun _ _ => fun _ => none) (fun _ => none) PUnit.unit (fun _ _ _ _ => PUnit.unit) x
noncomputable def lenD (d : UD) : SV → Hf → Option SV := @UD.rec (fun _ => SV → Hf → Option SV) (fun _ _ => none) (fun _ => fun _ _ => none) (fun x _ => bind1 (strOf x) fun s => some (litN s.size)) (fun _ _ => none) (fun _ => fun x _ => bind1 (lenS x) fun n => some (litN n)) (fun n _ => fun _ _ => some (litN n)) (fun _ _ => fun x h => lenM x h) (fun _ => fun _ _ => none) (fun _ _ => none) (fun _ _ => none) (fun _ _ => none) d

noncomputable def vals (tm : Tf) : List Operand → Option (List SV)
  | [] => some []
  | x :: xs => bind2 (valA tm x) (vals tm xs) fun v l => some (v :: l)

noncomputable def same (r : Option SV) : Option (SV × List Up) := bind1 r fun v => some (v, [])
noncomputable def unit (r : Option (List Up)) : Option (SV × List Up) := bind1 r fun us => some (.tup [], us)
noncomputable def one (tm : Tf) (x : Operand) (f : SV → Option (SV × List Up)) : Option (SV × List Up) := bind1 (valA tm x) f
noncomputable def two (tm : Tf) (x y : Operand) (f : SV → SV → Option (SV × List Up)) : Option (SV × List Up) := bind2 (valA tm x) (valA tm y) f

noncomputable def opAlloc (E : Env) (new : Nat) (e : TypeId) : Option (SV × List Up) := bind1 (E.ty.get e) fun i => some (.ptr new 0, [(new, some (.cells e i.zero))])
noncomputable def opBox (new : Nat) (e : TypeId) (v : SV) : Option (SV × List Up) := bind1 v.cells fun cs => some (.ptr new 0, [(new, some (.cells e cs))])
noncomputable def opBuildSlice (E : Env) (new : Nat) (t : TypeId) (len : Nat) (pcs : List (Nat × List SV)) : Option (SV × List Up) :=
  bind1 (E.ty.get t) fun i => bind1 (sliceE i.desc) fun e => bind1 (E.ty.get e) fun ie =>
    sel (elemOk ie && Nat.ble (Nat.mul len ie.size) 16777216) (bind1 (fillA (placeE ie.size) (rep ie.zero len) pcs) fun cs => some (.sl new 0 len (.k len), [(new, some (.cells e cs))])) none
noncomputable def isIfc (d : UD) : Bool := @UD.rec (fun _ => Bool) (false) (fun _ => false) (false) (false) (fun _ => false) (fun _ _ => false) (fun _ _ => false) (fun _ => false) (false) (true) (false) d
noncomputable def opIfc (E : Env) (t : TypeId) (v : SV) : Option (SV × List Up) := bind1 (E.ty.get t) fun i => sel (isIfc i.desc) none (some (.ifc t v, []))
noncomputable def okFn : Fn → Bool
  | .func _ => true
  | _ => false
noncomputable def opFunc (tm : Tf) (f : Fn) (a c : List Operand) : Option (SV × List Up) := sel (okFn f) (bind2 (vals tm a) (vals tm c) fun l m => some (.fn f l m, [])) none
noncomputable def newMap (new : Nat) : Option (SV × List Up) := some (.mp new, [(new, some (.map [] 0))])
noncomputable def opMap (E : Env) (tm : Tf) (new : Nat) (t : TypeId) : Option Operand → Option (SV × List Up)
  | none => newMap new
  | some x => bind2 (E.ty.get t) (valA tm x) fun i v => bind2 (mapE i.desc) (natOf v) fun _ _ => newMap new
noncomputable def opMake (E : Env) (new : Nat) (t : TypeId) (l c : Nat) : Option (SV × List Up) :=
  bind1 (E.ty.get t) fun i => bind1 (sliceE i.desc) fun e => bind1 (E.ty.get e) fun ie =>
    sel (Nat.ble l c && (Nat.ble c 1000000 && elemOk ie)) (some (.sl new 0 l (.k c), [(new, some (.cells e (rep ie.zero c)))])) none
noncomputable def structE (d : UD) : Option (List FL) := @UD.rec (fun _ => Option (List FL)) (none) (fun _ => none) (none) (none) (fun _ => none) (fun _ _ => none) (fun _ _ => none) (fun fs => some fs) (none) (none) (none) d
noncomputable def opFieldAddr (E : Env) (s : TypeId) (f : Nat) (v : SV) : Option (SV × List Up) :=
  bind2 (E.ty.get s) (ptrOf v) fun i p => bind1 (structE i.desc) fun fs => bind1 (fs[f]?) fun fl => bind1 (E.ty.get fl.type) fun fi => sel (Nat.ble 1 fi.size) (some (.ptr p.1 (Nat.add p.2 fl.off), [])) none
noncomputable def opField (E : Env) (t : TypeId) (f : Nat) (v : SV) : Option (SV × List Up) :=
  bind2 (E.ty.get t) (aggOf v) fun i cs => bind1 (structE i.desc) fun fs => bind1 (fs[f]?) fun fl => bind1 (E.ty.get fl.type) fun fi => same (partA fi cs fl.off)
noncomputable def indexD (d : UD) : Env → Nat → SV → Option (SV × List Up) := @UD.rec (fun _ => Env → Nat → SV → Option (SV × List Up)) (fun _ _ _ => none) (fun _ => fun _ _ _ => none) (fun _ k v => bind1 (strOf v) fun s => bind1 (s.data.toList[k]?) fun b => some (.int .u8 (.lit (.ofNat b.toNat)), [])) (fun _ _ _ => none) (fun _ => fun _ _ _ => none) (fun n e => fun E k v => bind2 (aggOf v) (E.ty.get e) fun cs ie => sel (Nat.ble (Nat.succ k) n) (same (partA ie cs (Nat.mul k ie.size))) none) (fun _ _ => fun _ _ _ => none) (fun _ => fun _ _ _ => none) (fun _ _ _ => none) (fun _ _ _ => none) (fun _ _ _ => none) d
noncomputable def opIndex (E : Env) (t : TypeId) (k : Nat) (v : SV) : Option (SV × List Up) := bind1 (E.ty.get t) fun i => indexD i.desc E k v
noncomputable def rangeM (x : SV) : Hf → Option SO := @SV.rec (fun _ => Hf → Option SO) (fun _ => PUnit) (fun _ => fun _ => none) (fun _ _ => fun _ => none) (fun _ => fun _ => none) (fun _ _ => fun _ => none) (fun _ => none) (fun _ _ _ _ => fun _ => none) (fun _ => none) (fun _ => none) (fun i => fun h => bind1 (mapO (h i)) fun p => some (.mapIter (some i) p.2 [] p.2)) (fun _ => some (.mapIter none 0 [] 0)) (fun _ _ _ _ _ => fun _ => none) (fun _ => fun _ => none) (fun _ => none) (fun _ _ _ => fun _ => none) (fun _ => none) (fun _ _ => fun _ => none) (fun _ _ => fun _ => none) (fun _ => none) PUnit.unit (fun _ _ _ _ => PUnit.unit) x
noncomputable def rangeD (d : UD) (v : SV) (h : Hf) : Option SO :=
  match d with
  | .string => bind1 (strOf v) fun s => some (.strIter s 0)
  | .map _ _ => rangeM v h
  | _ => none
noncomputable def opRange (E : Env) (h : Hf) (new : Nat) (t : TypeId) (v : SV) : Option (SV × List Up) := bind1 (E.ty.get t) fun i => bind1 (rangeD i.desc v h) fun o => some (.ptr new 0, [(new, some o)])
noncomputable def iterO : Option SO → Option (ByteArray × Nat)
  | some (.strIter s p) => some (s, p)
  | _ => none
noncomputable def zeroOff (v : SV) : Option Nat := bind1 (ptrOf v) fun q => sel (Nat.beq q.2 0) (some q.1) none
noncomputable def nextStr (id : Nat) (p : ByteArray × Nat) : SV × List Up :=
  sel (Nat.ble (Nat.succ p.2) p.1.size) (.tup [.bool true, litN p.2, .int .i32 (.lit (Utf8.decode p.1 p.2).1)], [(id, some (.strIter p.1 (Nat.add p.2 (Utf8.decode p.1 p.2).2)))]) (.tup [.bool false], [])
noncomputable def opNext (h : Hf) (isS : Bool) (v : SV) : Option (SV × List Up) := sel isS (bind1 (zeroOff v) fun id => bind1 (iterO (h id)) fun p => some (nextStr id p)) none
noncomputable def failV (i : TI) (ok : Bool) : Option SV := sel ok (bind1 (partA i i.zero 0) fun z => some (.tup [z, .bool false])) none
noncomputable def asserted (x : SV) : TypeId → TI → Bool → Option SV := @SV.rec (fun _ => TypeId → TI → Bool → Option SV) (fun _ => PUnit) (fun _ => fun _ _ _ => none) (fun _ _ => fun _ _ _ => none) (fun _ => fun _ _ _ => none) (fun _ _ => fun _ _ _ => none) (fun _ _ _ => none) (fun _ _ _ _ => fun _ _ _ => none) (fun _ _ _ => none) (fun _ _ _ => none) (fun _ => fun _ _ _ => none) (fun _ _ _ => none) (fun _ _ _ _ _ => fun _ _ _ => none) (fun _ => fun _ _ _ => none) (fun _ _ _ => none) (fun t2 u _ => fun t i ok => sel (Nat.beq t2 t) (some (okV ok u true)) (failV i ok)) (fun _ i ok => failV i ok) (fun _ _ => fun _ _ _ => none) (fun _ _ => fun _ _ _ => none) (fun _ _ _ => none) PUnit.unit (fun _ _ _ _ => PUnit.unit) x
noncomputable def opAssert (E : Env) (t : TypeId) (ok : Bool) (v : SV) : Option (SV × List Up) := bind1 (E.ty.get t) fun i => sel (isIfc i.desc) none (same (asserted v t i ok))
noncomputable def minI (E : Env) (mx : Bool) (x y : SV) : Option SV := bind2 (intOf x) (intOf y) fun a b => bind1 (sel mx (ltI E a.2 b.2) (ltI E b.2 a.2)) fun r => some (.int a.1 (sel r b.2 a.2))
noncomputable def rowD : UD → Bool
  | .slice _ => true
  | .string => true
  | _ => false
noncomputable def fst2 {α : Type} : List α → Option (α × α)
  | [a, b] => some (a, b)
  | _ => none
noncomputable def opBuiltin (E : Env) (h : Hf) (new : Nat) (b : Builtin) (as : List SV) (ts : List TypeId) : Option (SV × List Up) :=
  match b with
  | .len => bind2 as.head? ts.head? fun x t => sel (Nat.beq as.length 1) (bind1 (E.ty.get t) fun i => same (lenD i.desc x h)) none
  | .append => bind2 (fst2 as) (fst2 ts) fun p q => bind1 (E.ty.get q.2) fun i => sel (rowD i.desc) (appendA E h new q.1 p.1 p.2) none
  | .copy => bind2 (fst2 as) ts.head? fun p t => copyA E h t p.1 p.2
  | .min => bind1 (fst2 as) fun p => same (minI E false p.1 p.2)
  | .max => bind1 (fst2 as) fun p => same (minI E true p.1 p.2)
  | _ => none
noncomputable def opCall (E : Env) (tm : Tf) (h : Hf) (new : Nat) (c : Call) : Option (SV × List Up) :=
  match c.callee with
  | .builtin b => bind1 (vals tm c.args.toList) fun as => opBuiltin E h new b as c.argTypes.toList
  | _ => none
/-- What an operation yields: its value and the state behind it. -/
noncomputable def opD (o : Op) : Env → Tf → Hf → Nat → Option (SV × List Up) := @Op.rec (fun _ => Env → Tf → Hf → Nat → Option (SV × List Up)) (fun x => fun _ tm h _ => one tm x fun v => some (v, [])) (fun x => fun _ tm h _ => one tm x fun v => some (v, [])) (fun c x y => fun _ tm h _ => bind1 (valA tm c) fun v => bind1 (boolOf v) fun b => one tm (sel b x y) fun v => some (v, [])) (fun e => fun E _ h new => opAlloc E new e) (fun e x => fun _ tm h new => one tm x (opBox new e)) (fun t parts => fun E tm h _ => bind1 (partsA tm parts.toList) fun pcs => same (buildA E t pcs)) (fun t len parts => fun E tm h new => bind1 (partsA tm parts.toList) fun pcs => opBuildSlice E new t len pcs) (fun t m k x => fun E tm h _ => two tm m k fun a b => one tm x fun c => unit (updA E h t a b c)) (fun t x => fun E tm h _ => one tm x fun v => same (loadA E h t v)) (fun t x y => fun E tm h _ => two tm x y fun a v => unit (storeA E h t v a)) (fun _ => fun _ _ _ _ => none) (fun _ => fun _ _ _ _ => none) (fun x => fun _ tm h _ => one tm x fun v => same (nilOk v)) (fun op t x y _ => fun E tm h _ => two tm x y fun v u => same (binA E op t x y v u)) (fun op _ x => fun _ tm h _ => one tm x fun v => same (unA op v)) (fun s d x => fun E tm h _ => one tm x fun v => same (convA E s d v)) (fun _ _ => fun _ _ _ _ => none) (fun t x => fun E tm h _ => one tm x (opIfc E t)) (fun f a c => fun _ tm h _ => opFunc tm f a.toList c.toList) (fun t r => fun E tm h new => opMap E tm new t r) (fun _ _ => fun _ _ _ _ => none) (fun t l c => fun E tm h new => two tm l c fun u v => bind2 (natOf u) (natOf v) (opMake E new t)) (fun t x lo hi mx => fun E tm h _ => one tm x fun v => bind3 (optNat tm lo) (optNat tm hi) (optNat tm mx) fun l u m => same (sliceA E t v l u m)) (fun s x f => fun E tm h _ => one tm x (opFieldAddr E s f)) (fun t x f => fun E tm h _ => one tm x (opField E t f)) (fun t x ix => fun E tm h _ => two tm x ix fun v u => bind1 (natOf u) fun k => same (indexAddrA E t v k)) (fun t x ix => fun E tm h _ => two tm x ix fun v u => bind1 (natOf u) fun k => opIndex E t k v) (fun t x k ok => fun E tm h _ => two tm x k fun a b => same (lookupA E h t a b ok)) (fun t m k x => fun E tm h _ => two tm m k fun a b => one tm x fun c => unit (updA E h t a b c)) (fun _ _ _ => fun _ _ _ _ => none) (fun _ _ _ _ => fun _ _ _ _ => none) (fun t x => fun E tm h new => one tm x (opRange E h new t)) (fun it isS => fun _ tm h _ => one tm it (opNext h isS)) (fun _ => fun _ _ _ _ => none) (fun x _ t ok => fun E tm h _ => one tm x (opAssert E t ok)) (fun x i => fun _ tm h _ => one tm x fun v => bind1 (tupOf v) fun vs => same (vs[i]?)) (fun c => fun E tm h new => opCall E tm h new c) (fun _ => fun _ _ _ _ => none) (fun _ => fun _ _ _ _ => none) (fun _ => fun _ _ _ _ => none) (fun _ _ => fun _ _ _ _ => none) (fun _ _ _ => fun _ _ _ _ => none) (fun _ _ => fun _ _ _ _ => none) o
noncomputable def opA (E : Env) (op : Op) (tm : Tf) (h : Hf) (new : Nat) : Option (SV × List Up) := opD op E tm h new

inductive Ex where
  | normal | exit (id : Nat) | ret | pan (v : SV)
  deriving Inhabited

noncomputable def setArgs (vs : List SV) : Nat → Tr SV → Tr SV := @List.rec SV (fun _ => Nat → Tr SV → Tr SV) (fun _ t => t) (fun v _ ih i t => ih (Nat.add i 1) (t.set i (some v))) vs
noncomputable def setParams (nt : Nat) (tm : Tr SV) : List Nat → List SV → Option (Tr SV)
  | [], [] => some tm
  | p :: ps, v :: vs => sel (Nat.ble (Nat.succ p) nt) (setParams nt (tm.set p (some v)) ps vs) none
  | _, _ => none

noncomputable def putD (tm : Tr SV) (d : Option Nat) (v : SV) : Tr SV := @Option.rec Nat (fun _ => Tr SV) tm (fun d => tm.set d (some v)) d
noncomputable def dstOk (nt : Nat) (d : Option Nat) : Bool := @Option.rec Nat (fun _ => Bool) true (fun d => Nat.ble (Nat.succ d) nt) d

noncomputable def wantV (x : SV) : Bool → Option Bool := @SV.rec (fun _ => Bool → Option Bool) (fun _ => PUnit) (fun b => fun want => some (b == want)) (fun _ _ => fun _ => none) (fun _ => fun _ => none) (fun _ _ => fun _ => none) (fun _ => none) (fun _ _ _ _ => fun _ => none) (fun _ => none) (fun _ => none) (fun _ => fun _ => none) (fun _ => none) (fun _ _ _ _ _ => fun _ => none) (fun _ => fun _ => none) (fun _ => none) (fun _ _ _ => fun _ => none) (fun _ => none) (fun _ _ => fun _ => none) (fun _ _ => fun _ => some false) (fun _ => none) PUnit.unit (fun _ _ _ _ => PUnit.unit) x
noncomputable def wantB (want : Bool) (x : SV) : Option Bool := wantV x want
noncomputable def nthDst (l : List Oper) : Nat → Option Nat := @List.rec Oper (fun _ => Nat → Option Nat) (fun _ => none) (fun o _ ih j => @Nat.rec (fun _ => Option Nat) o.dst (fun k _ => ih k) j) l
noncomputable def wantedG (ops : List Oper) (tm : Tf) (j : Nat) (want : Bool) : Option Bool := @Option.rec Nat (fun _ => Option Bool) (some false) (fun t => bind1 (tm t) (wantB want)) (nthDst ops j)
noncomputable def wantedA (ops : List Oper) (o : Oper) (tm : Tf) : Option Bool := @Option.rec (Nat × Bool) (fun _ => Option Bool) (some true) (fun g => wantedG ops tm g.1 g.2) o.guard

noncomputable def resVar (E : Env) (tm : Tf) (h : Hf) : ResultVar → Option SV
  | .tmp t => tm t
  | .cell t ty => bind1 (tm t) (loadA E h ty)
noncomputable def resVars (E : Env) (tm : Tf) (h : Hf) : List ResultVar → Option (List SV)
  | [] => some []
  | r :: rs => bind2 (resVar E tm h r) (resVars E tm h rs) fun v l => some (v :: l)
noncomputable def oneOf : List SV → SV
  | [v] => v
  | vs => .tup vs

noncomputable def bytesLt : List UInt8 → List UInt8 → Bool
  | [], [] => false
  | [], _ :: _ => true
  | _ :: _, [] => false
  | a :: l, b :: m => sel (Nat.ble (Nat.succ a.toNat) b.toNat) true (sel (Nat.beq a.toNat b.toNat) (bytesLt l m) false)
noncomputable def cpB : Cp → Cp → Bool
  | .k a, .k b => Nat.beq a b
  | .u a, .u b => Nat.beq a b
  | _, _ => false
noncomputable def cmpStr (a b : ByteArray) : Int := sel (bytesLt a.data.toList b.data.toList) (-1) (sel (bytesB a.data.toList b.data.toList) 0 1)

/-- What an operation of a region did: was it a call; the blocks that it read and wrote; its new numbers. -/
structure Rc where
  i : Nat
  call : Bool
  rd : List Nat
  wr : List Nat
  lo : Nat
  hi : Nat

/-- What waits for the end of a function: a mark, or a call. -/
inductive Dm where
  | mark (d : Nat)
  | fn (k : FuncId) (args caps : List SV)

inductive Job where
  | code (nt : Nat) (c : Code) (tm : Tr SV) (mk : List Dm) (h : Hs)
  | ops (nt : Nat) (all l : List Oper) (tm : Tr SV) (mk : List Dm) (h : Hs)
  | draw (nt W : Nat) (all : List Oper) (base i M : Nat) (prev : List Rc) (l : List Oper) (tm : Tr SV) (h : Hs)
  | call (f : SV) (args : List SV) (h : Hs)
/-- A way that a piece of code may take. -/
structure Oc where
  e : Ex
  tm : Tr SV
  dm : List Dm
  h : Hs
/-- A way that a call may take: it returns, or panics. -/
structure Rs where
  pan : Bool
  v : SV
  h : Hs
inductive Out where
  | codes (l : List Oc)
  | st (tm : Tr SV) (h : Hs)
  | ress (l : List Rs)
  | fail (why : String)
  | trap (k : Nat) (args : List SV) (h : Hs)
  deriving Inhabited

noncomputable abbrev Out.code (e : Ex) (tm : Tr SV) (mk : List Dm) (h : Hs) : Out := .codes [⟨e, tm, mk, h⟩]
noncomputable abbrev Out.res (v : SV) (h : Hs) : Out := .ress [⟨false, v, h⟩]
noncomputable abbrev Out.pan (v : SV) (h : Hs) : Out := .ress [⟨true, v, h⟩]
/-- The ways of both. -/
noncomputable def appO : Out → Out → Out
  | .codes a, .codes b => .codes (a ++ b)
  | .ress a, .ress b => .ress (a ++ b)
  | .fail s, _ => .fail s
  | _, .fail s => .fail s
  | _, _ => .fail "app"
noncomputable def catL {α : Type} (k : α → Out) (l : List α) : Out :=
  @List.rec α (fun _ => Out) (.fail "no way") (fun o l ih => @List.rec α (fun _ => Out) (k o) (fun _ _ _ => appO (k o) ih) l) l
noncomputable def onCode (r : Out) (k : Ex → Tr SV → List Dm → Hs → Out) : Out := @Out.rec (fun _ => Out) (fun l => catL (fun o => k o.e o.tm o.dm o.h) l) (fun _ _ => .fail "onCode") (fun _ => .fail "onCode") (fun s => .fail s) (fun a b c => .trap a b c) r
noncomputable def stK (r : Out) (kc : Ex → Tr SV → List Dm → Hs → Out) (k : Tr SV → Hs → Out) : Out := @Out.rec (fun _ => Out) (fun l => catL (fun o => kc o.e o.tm o.dm o.h) l) k (fun _ => .fail "stK") (fun s => .fail s) (fun a b c => .trap a b c) r
noncomputable def resK (r : Out) (k kp : SV → Hs → Out) : Out := @Out.rec (fun _ => Out) (fun _ => .fail "resK") (fun _ _ => .fail "resK") (fun l => catL (fun r => sel r.pan (kp r.v r.h) (k r.v r.h)) l) (fun s => .fail s) (fun a b c => .trap a b c) r
noncomputable def one1 (l : List Rs) (k : Rs → Out) : Out := @List.rec Rs (fun _ => Out) (.fail "no way") (fun r l _ => @List.rec Rs (fun _ => Out) (k r) (fun _ _ _ => .fail "many ways") l) l
/-- There is but one way. -/
noncomputable def oneK (r : Out) (k kp : SV → Hs → Out) : Out := @Out.rec (fun _ => Out) (fun _ => .fail "oneK") (fun _ _ => .fail "oneK") (fun l => one1 l fun r => sel r.pan (kp r.v r.h) (k r.v r.h)) (fun s => .fail s) (fun a b c => .trap a b c) r
noncomputable def seqE (e : Ex) (tm : Tr SV) (mk : List Dm) (h : Hs) (k : Tr SV → List Dm → Hs → Out) : Out := @Ex.rec (fun _ => Out) (k tm mk h) (fun id => .code (.exit id) tm mk h) (.code .ret tm mk h) (fun v => .code (.pan v) tm mk h) e
noncomputable def seqK (r : Out) (k : Tr SV → List Dm → Hs → Out) : Out := onCode r fun e tm mk h => seqE e tm mk h k
noncomputable def leave (id : Nat) (e : Ex) : Ex := @Ex.rec (fun _ => Ex) .normal (fun id' => sel (Nat.beq id' id) .normal (.exit id')) .ret (fun v => .pan v) e
noncomputable def blockK (id : Nat) (r : Out) : Out := onCode r fun e tm mk h => .code (leave id e) tm mk h
noncomputable def condK (v : Option SV) (a b : Out) : Out := @Option.rec Bool (fun _ => Out) (.fail "cond") (fun c => sel c a b) (bind1 v boolOf)
noncomputable def jumpK (j : Option Code) (tm : Tr SV) (mk : List Dm) (h : Hs) : Out :=
  match j with
  | none => .code .normal tm mk h
  | some c => (match c with | .ret => .code .ret tm mk h | .exit id => .code (.exit id) tm mk h | _ => .fail "pending")
noncomputable def notBusy : LoopState → Bool
  | .busy => false
  | _ => true
noncomputable def endLoopK (l d : Nat) (tm : Tr SV) (mk : List Dm) (h : Hs) : Out :=
  match h.hp.get l with
  | some (.loop nt tm0 ps as bo st pend dd) => sel (notBusy st) (jumpK pend tm (.mark d :: mk) (h.put l (.loop nt tm0 ps as bo .exhausted pend dd))) (.fail "loop busy")
  | _ => .fail "loop lost"
noncomputable def enterH (nt : Nat) (tm : Tr SV) (ps : List Nat) (assign body : Code) (h : Hs) : Hs :=
  ⟨(h.hp.set h.nx (some .dfr)).set (Nat.add h.nx 1) (some (.loop nt tm ps assign body .ready none h.nx)), Nat.add h.nx 2, h.lg⟩
/-- A function of Go's with a body. -/
noncomputable def goFn (E : Env) : SV → Bool
  | .fn (.func k) _ _ => @Option.rec Func (fun _ => Bool) false (fun fn => fn.body.isSome) (E.fn.get k)
  | _ => false
noncomputable def rangeK (E : Env) (rec : Job → Out) (nt : Nat) (g : Option SV) (ps : List Nat) (assign body : Code) (tm : Tr SV) (mk : List Dm) (h : Hs) : Out :=
  match g with
  | some g => sel (goFn E g) (oneK (rec (.call g [.yld (Nat.add h.nx 1)] (enterH nt tm ps assign body h))) (fun _ h2 => endLoopK (Nat.add h.nx 1) h.nx tm mk h2) fun _ _ => .fail "panic in a range") (.fail "rangeFunc")
  | none => .fail "rangeFunc"

noncomputable def codeD (c : Code) : Env → (Job → Out) → Nat → Tr SV → List Dm → Hs → Out := @Code.rec (fun _ => Env → (Job → Out) → Nat → Tr SV → List Dm → Hs → Out)
  (fun _ _ _ tm mk h => .code .normal tm mk h)
  (fun _ ops draw _ rec nt tm mk h => sel draw (stK (rec (.draw nt ops.size ops.toList h.nx 0 0 [] ops.toList tm ⟨h.hp, Nat.add h.nx ops.size, h.lg⟩)) (fun e tm' _ h' => .code e tm' mk h') fun tm' h' => .code .normal tm' mk h') (rec (.ops nt ops.toList ops.toList tm mk h)))
  (fun a b _ _ _ rec nt tm mk h => seqK (rec (.code nt a tm mk h)) fun tm' mk' h' => rec (.code nt b tm' mk' h'))
  (fun c a b _ _ _ rec nt tm mk h => condK (valA tm.get c) (rec (.code nt a tm mk h)) (rec (.code nt b tm mk h)))
  (fun id c _ _ rec nt tm mk h => blockK id (rec (.code nt c tm mk h)))
  (fun c _ _ rec nt tm mk h => seqK (rec (.code nt c tm mk h)) fun tm' mk' h' => rec (.code nt (.loop c) tm' mk' h'))
  (fun f ps as bo _ _ E rec nt tm mk h => rangeK E rec nt (valA tm.get f) ps.toList as bo tm mk h)
  (fun id _ _ _ tm mk h => .code (.exit id) tm mk h)
  (fun _ _ _ _ _ _ _ _ => .fail "scope")
  (fun _ _ _ _ _ _ _ => .fail "label")
  (fun _ _ _ _ _ _ _ => .fail "goto")
  (fun _ _ _ tm mk h => .code .ret tm mk h)
  (fun _ _ _ _ _ _ _ => .fail "refuse") c

noncomputable def calleeV (tm : Tf) : Callee → Option SV
  | .value x => valA tm x
  | _ => none
noncomputable def isValue : Callee → Bool
  | .value _ => true
  | _ => false
/-- Is it a call of a function of Go's? -/
noncomputable def callOf (o : Op) : Option Call := @Op.rec (fun _ => Option Call) (fun _ => none) (fun _ => none) (fun _ _ _ => none) (fun _ => none) (fun _ _ => none) (fun _ _ => none) (fun _ _ _ => none) (fun _ _ _ _ => none) (fun _ _ => none) (fun _ _ _ => none) (fun _ => none) (fun _ => none) (fun _ => none) (fun _ _ _ _ _ => none) (fun _ _ _ => none) (fun _ _ _ => none) (fun _ _ => none) (fun _ _ => none) (fun _ _ _ => none) (fun _ _ => none) (fun _ _ => none) (fun _ _ _ => none) (fun _ _ _ _ _ => none) (fun _ _ _ => none) (fun _ _ _ => none) (fun _ _ _ => none) (fun _ _ _ => none) (fun _ _ _ _ => none) (fun _ _ _ _ => none) (fun _ _ _ => none) (fun _ _ _ _ => none) (fun _ _ => none) (fun _ _ => none) (fun _ => none) (fun _ _ _ _ => none) (fun _ _ => none) (fun c => sel (isValue c.callee) (some c) none) (fun _ => none) (fun _ => none) (fun _ => none) (fun _ _ => none) (fun _ _ _ => none) (fun _ _ => none) o
noncomputable def memB' (x : Nat) : List Nat → Bool
  | [] => false
  | y :: l => sel (Nat.beq x y) true (memB' x l)
/-- Is it the deferring of a call of a function value? -/
noncomputable def deferOf (o : Op) : Option Call := @Op.rec (fun _ => Option Call) (fun _ => none) (fun _ => none) (fun _ _ _ => none) (fun _ => none) (fun _ _ => none) (fun _ _ => none) (fun _ _ _ => none) (fun _ _ _ _ => none) (fun _ _ => none) (fun _ _ _ => none) (fun _ => none) (fun _ => none) (fun _ => none) (fun _ _ _ _ _ => none) (fun _ _ _ => none) (fun _ _ _ => none) (fun _ _ => none) (fun _ _ => none) (fun _ _ _ => none) (fun _ _ => none) (fun _ _ => none) (fun _ _ _ => none) (fun _ _ _ _ _ => none) (fun _ _ _ => none) (fun _ _ _ => none) (fun _ _ _ => none) (fun _ _ _ => none) (fun _ _ _ _ => none) (fun _ _ _ _ => none) (fun _ _ _ => none) (fun _ _ _ _ => none) (fun _ _ => none) (fun _ _ => none) (fun _ => none) (fun _ _ _ _ => none) (fun _ _ => none) (fun _ => none) (fun _ => none) (fun c => sel (isValue c.callee) (some c) none) (fun _ => none) (fun _ _ => none) (fun _ _ _ => none) (fun _ _ => none) o
/-- Is it a panic? -/
noncomputable def panicOf (o : Op) : Option Operand := @Op.rec (fun _ => Option Operand) (fun _ => none) (fun _ => none) (fun _ _ _ => none) (fun _ => none) (fun _ _ => none) (fun _ _ => none) (fun _ _ _ => none) (fun _ _ _ _ => none) (fun _ _ => none) (fun _ _ _ => none) (fun _ => none) (fun _ => none) (fun _ => none) (fun _ _ _ _ _ => none) (fun _ _ _ => none) (fun _ _ _ => none) (fun _ _ => none) (fun _ _ => none) (fun _ _ _ => none) (fun _ _ => none) (fun _ _ => none) (fun _ _ _ => none) (fun _ _ _ _ _ => none) (fun _ _ _ => none) (fun _ _ _ => none) (fun _ _ _ => none) (fun _ _ _ => none) (fun _ _ _ _ => none) (fun _ _ _ _ => none) (fun _ _ _ => none) (fun _ _ _ _ => none) (fun _ _ => none) (fun _ _ => none) (fun _ => none) (fun _ _ _ _ => none) (fun _ _ => none) (fun _ => none) (fun _ => none) (fun _ => none) (fun x => some x) (fun _ _ => none) (fun _ _ _ => none) (fun _ _ => none) o
noncomputable def goK (rec : Job → Out) (h : Hs) (f : Option SV) (as : Option (List SV)) (k kp : SV → Hs → Out) : Out :=
  @Option.rec (SV × List SV) (fun _ => Out) (.fail "call") (fun p => resK (rec (.call p.1 p.2 h)) k kp) (bind2 f as fun f as => some (f, as))
noncomputable def goK1 (rec : Job → Out) (h : Hs) (f : Option SV) (as : Option (List SV)) (k kp : SV → Hs → Out) : Out :=
  @Option.rec (SV × List SV) (fun _ => Out) (.fail "call") (fun p => oneK (rec (.call p.1 p.2 h)) k kp) (bind2 f as fun f as => some (f, as))
noncomputable def nextK (rec : Job → Out) (nt : Nat) (all l : List Oper) (tm : Tr SV) (mk : List Dm) (d : Option Nat) (v : SV) (h : Hs) : Out := rec (.ops nt all l (putD tm d v) mk h)
noncomputable def valK (rec : Job → Out) (nt : Nat) (all l : List Oper) (tm : Tr SV) (mk : List Dm) (h : Hs) (o : Oper) (r : Option (SV × List Up)) : Out :=
  @Option.rec (SV × List Up) (fun _ => Out) (.fail o.pos) (fun r => nextK rec nt all l tm mk o.dst r.1 (h.fin r.2)) r
/-- Is it a step of a range over a map? -/
noncomputable def nextOf (o : Op) : Option (Operand × Bool) := @Op.rec (fun _ => Option (Operand × Bool)) (fun _ => none) (fun _ => none) (fun _ _ _ => none) (fun _ => none) (fun _ _ => none) (fun _ _ => none) (fun _ _ _ => none) (fun _ _ _ _ => none) (fun _ _ => none) (fun _ _ _ => none) (fun _ => none) (fun _ => none) (fun _ => none) (fun _ _ _ _ _ => none) (fun _ _ _ => none) (fun _ _ _ => none) (fun _ _ => none) (fun _ _ => none) (fun _ _ _ => none) (fun _ _ => none) (fun _ _ => none) (fun _ _ _ => none) (fun _ _ _ _ _ => none) (fun _ _ _ => none) (fun _ _ _ => none) (fun _ _ _ => none) (fun _ _ _ => none) (fun _ _ _ _ => none) (fun _ _ _ _ => none) (fun _ _ _ => none) (fun _ _ _ _ => none) (fun _ _ => none) (fun it isS => sel isS none (some (it, false))) (fun it => some (it, true)) (fun _ _ _ _ => none) (fun _ _ => none) (fun _ => none) (fun _ => none) (fun _ => none) (fun _ => none) (fun _ _ => none) (fun _ _ _ => none) (fun _ _ => none) o
/-- The entries that are still to come. -/
noncomputable def leftE (seen : List Nat) (es : List (SV × SV × Nat)) : List (SV × SV × Nat) := es.filter fun e => !memB' e.2.2 seen
noncomputable def iterM (since : Nat) (seen : List Nat) (last c : Nat) (es : List (SV × SV × Nat)) : Bool :=
  es.all (fun e => Nat.ble (Nat.succ e.2.2) since) && Nat.ble since last
noncomputable def stepMap (rec : Job → Out) (nt : Nat) (all l : List Oper) (tm : Tr SV) (mk : List Dm) (h : Hs) (d : Option Nat) (id m since : Nat) (seen : List Nat) (c : Nat) (es : List (SV × SV × Nat)) : Out :=
  @List.rec (SV × SV × Nat) (fun _ => Out) (nextK rec nt all l tm mk d (.tup [.bool false]) h) (fun _ _ _ => catL (fun e => nextK rec nt all l tm mk d (.tup [.bool true, e.1, e.2.1]) (h.put id (.mapIter (some m) since (seen ++ [e.2.2]) c))) (leftE seen es)) (leftE seen es)
noncomputable def lastN : List Nat → Option Nat
  | [] => none
  | [a] => some a
  | _ :: l => lastN l
noncomputable def findE (b : Nat) : List (SV × SV × Nat) → Option SV
  | [] => none
  | e :: es => sel (Nat.beq e.2.2 b) (some (.tup [e.1, e.2.1])) (findE b es)
noncomputable def entryA (h : Hf) (id : Nat) : Option SV :=
  match h id with
  | some (.mapIter (some m) since seen last) =>
    (match h m with
    | some (.map es c) => sel (Nat.beq c last) (bind1 (lastN seen) fun b => findE b es) none
    | _ => none)
  | _ => none
noncomputable def entryK (rec : Job → Out) (nt : Nat) (all l : List Oper) (tm : Tr SV) (mk : List Dm) (h : Hs) (d : Option Nat) (r : Option SV) : Out := @Option.rec SV (fun _ => Out) (.fail "entry") (fun v => nextK rec nt all l tm mk d v h) r
noncomputable def stepIter (rec : Job → Out) (nt : Nat) (all l : List Oper) (tm : Tr SV) (mk : List Dm) (h : Hs) (d : Option Nat) (id : Nat) : Out :=
  match h.hp.get id with
  | some (.mapIter none _ _ _) => nextK rec nt all l tm mk d (.tup [.bool false]) h
  | some (.mapIter (some m) since seen last) =>
    (match h.hp.get m with
    | some (.map es c) => sel (iterM since seen last c es) (stepMap rec nt all l tm mk h d id m since seen c es) (.fail "the map was written")
    | _ => .fail "no map")
  | _ => .fail "no iterator"
noncomputable def iterK (rec : Job → Out) (nt : Nat) (all l : List Oper) (tm : Tr SV) (mk : List Dm) (h : Hs) (d : Option Nat) (isE : Bool) (v : Option SV) : Out :=
  @Option.rec Nat (fun _ => Out) (.fail "next") (fun id => sel isE (entryK rec nt all l tm mk h d (entryA h.hp.get id)) (stepIter rec nt all l tm mk h d id)) (bind1 v zeroOff)
/-- A function value with its arguments, put off. -/
noncomputable def putOff (x : SV) (as : List SV) : Option Dm :=
  match x with
  | .fn (.func k) fi ca => some (.fn k (fi ++ as) ca)
  | _ => none
noncomputable def deferK (rec : Job → Out) (nt : Nat) (all l : List Oper) (tm : Tr SV) (mk : List Dm) (h : Hs) (o : Oper) (d : Option Dm) : Out :=
  @Option.rec Dm (fun _ => Out) (.fail "defer") (fun d => nextK rec nt all l tm (d :: mk) o.dst .undef h) d
noncomputable def panV : SV → Option SV
  | .ifc t v => some (.ifc t v)
  | _ => none
noncomputable def panicK (tm : Tr SV) (mk : List Dm) (h : Hs) (v : Option SV) : Out := @Option.rec SV (fun _ => Out) (.fail "panic") (fun v => .code (.pan v) tm mk h) v
noncomputable def restN (E : Env) (rec : Job → Out) (nt : Nat) (all l : List Oper) (tm : Tr SV) (mk : List Dm) (h : Hs) (o : Oper) (it : Option (Operand × Bool)) : Out :=
  @Option.rec (Operand × Bool) (fun _ => Out) (valK rec nt all l tm mk h o (opA E o.op tm.get h.hp.get h.nx)) (fun x => iterK rec nt all l tm mk h o.dst x.2 (valA tm.get x.1)) it
noncomputable def restK (E : Env) (rec : Job → Out) (nt : Nat) (all l : List Oper) (tm : Tr SV) (mk : List Dm) (h : Hs) (o : Oper) (d : Option Call) (p : Option Operand) : Out :=
  @Option.rec Call (fun _ => Out) (@Option.rec Operand (fun _ => Out) (restN E rec nt all l tm mk h o (nextOf o.op)) (fun x => panicK tm mk h (bind1 (valA tm.get x) panV)) p)
    (fun c => deferK rec nt all l tm mk h o (bind2 (calleeV tm.get c.callee) (vals tm.get c.args.toList) putOff)) d
noncomputable def doK (E : Env) (rec : Job → Out) (nt : Nat) (all l : List Oper) (tm : Tr SV) (mk : List Dm) (h : Hs) (o : Oper) (c : Option Call) : Out :=
  @Option.rec Call (fun _ => Out) (restK E rec nt all l tm mk h o (deferOf o.op) (panicOf o.op)) (fun c => goK rec h (calleeV tm.get c.callee) (vals tm.get c.args.toList) (nextK rec nt all l tm mk o.dst) fun v h => .code (.pan v) tm mk h) c
noncomputable def wantK (E : Env) (rec : Job → Out) (nt : Nat) (all l : List Oper) (tm : Tr SV) (mk : List Dm) (h : Hs) (o : Oper) (w : Option Bool) : Out :=
  @Option.rec Bool (fun _ => Out) (.fail "wanted") (fun w => sel w (doK E rec nt all l tm mk h o (callOf o.op)) (nextK rec nt all l tm mk o.dst (.tup []) h)) w
noncomputable def stepOps (E : Env) (rec : Job → Out) (nt : Nat) (all l : List Oper) (tm : Tr SV) (mk : List Dm) (h : Hs) : Out :=
  @List.rec Oper (fun _ => Out) (.code .normal tm mk h) (fun o l _ => sel (dstOk nt o.dst) (wantK E rec nt all l tm mk h o (wantedA all o tm.get)) (.fail "slot")) l

/-- A number is reckoned ahead. -/
noncomputable def force {β : Type} (m : Nat) (f : Nat → β) : β := Nat.rec (f 0) (fun k _ => f (k + 1)) m
noncomputable def dirO (o : Oper) : List Nat := (o.after.toList.filter (Region.binds .any ·)).map (·.on)
noncomputable def unionM (W M : Nat) : List Nat → Nat
  | [] => 0
  | i :: ds => Nat.lor (unionM W M ds) (Nat.lor (Nat.shiftLeft 1 i) (Nat.mod (Nat.shiftRight M (Nat.mul i W)) (Nat.pow 2 W)))
noncomputable def bitB (m i : Nat) : Bool := Nat.beq (Nat.land (Nat.shiftRight m i) 1) 1
noncomputable def memB (x : Nat) : List Nat → Bool
  | [] => false
  | y :: l => sel (Nat.beq x y) true (memB x l)
noncomputable def disjB : List Nat → List Nat → Bool
  | [], _ => true
  | x :: l, m => sel (memB x m) false (disjB l m)
noncomputable def nilB : List Nat → Bool
  | [] => true
  | _ => false
/-- No number of the list is in the range. -/
noncomputable def offB (lo hi : Nat) : List Nat → Bool
  | [] => true
  | x :: l => sel (Nat.ble (Nat.succ x) lo) (offB lo hi l) (sel (Nat.ble hi x) (offB lo hi l) false)
/-- May the two be taken in either order? p is ahead of r in the text. -/
noncomputable def indepR (p r : Rc) : Bool :=
  offB p.lo p.hi r.rd && (offB p.lo p.hi r.wr && (offB r.lo r.hi p.rd && (offB r.lo r.hi p.wr && (disjB p.rd r.wr && (disjB r.rd p.wr && (disjB p.wr r.wr &&
    sel p.call (sel r.call false (nilB r.wr)) (sel r.call (nilB p.wr) true)))))))
noncomputable def indepAll (m : Nat) (r : Rc) : List Rc → Bool
  | [] => true
  | p :: ps => sel (bitB m p.i) (indepAll m r ps) (sel (indepR p r) (indepAll m r ps) false)
noncomputable def allLt (j : Nat) : List Nat → Bool
  | [] => true
  | i :: l => sel (Nat.ble (Nat.succ i) j) (allLt j l) false
/-- What the operation looks at in the heap. -/
noncomputable def idOf : Option SV → List Nat
  | some (.ptr i _) => [i]
  | some (.sl i _ _ _) => [i]
  | some (.mp i) => [i]
  | _ => []
noncomputable def idsOf (tm : Tf) : List Operand → List Nat
  | [] => []
  | x :: xs => idOf (valA tm x) ++ idsOf tm xs
noncomputable def readsOf (op : Op) (tm : Tf) : List Nat :=
  match op with
  | .load _ x => idsOf tm [x]
  | .store _ x y => idsOf tm [x, y]
  | .lookup _ x k _ => idsOf tm [x, k]
  | .mapUpdate _ m k x => idsOf tm [m, k, x]
  | .insert _ m k x => idsOf tm [m, k, x]
  | .next it _ => idsOf tm [it]
  | .range _ x => idsOf tm [x]
  | .call c => idsOf tm c.args.toList
  | _ => []
noncomputable def wrOf (new : Nat) : List Up → List Nat
  | [] => []
  | u :: us => sel (Nat.beq u.1 new) (wrOf new us) (u.1 :: wrOf new us)
noncomputable def below (n : Nat) : List Nat → List Nat → List Nat
  | [], acc => acc
  | x :: l, acc => sel (Nat.ble (Nat.succ x) n) (below n l (x :: acc)) (below n l acc)
/-- The numbers of simple operations that are not ordered with this one are put away while it runs. -/
noncomputable def hide (m : Nat) : List Rc → Hp → Hp
  | [], hp => hp
  | p :: ps, hp => sel (bitB m p.i) (hide m ps hp) (hide m ps (hp.set p.lo none))
noncomputable def unhide (m : Nat) (old : Hp) : List Rc → Hp → Hp
  | [], hp => hp
  | p :: ps, hp => sel (bitB m p.i) (unhide m old ps hp) (unhide m old ps (hp.set p.lo (old.get p.lo)))
noncomputable def nextD (rec : Job → Out) (nt W : Nat) (all : List Oper) (base i M m : Nat) (prev : List Rc) (l : List Oper) (tm : Tr SV) (d : Option Nat) (r : Rc) (v : SV) (h : Hs) : Out :=
  sel (indepAll m r prev) (force (Nat.lor M (Nat.shiftLeft m (Nat.mul i W))) fun M' => rec (.draw nt W all base (Nat.add i 1) M' (r :: prev) l (putD tm d v) h)) (.fail "order")
noncomputable def valD (rec : Job → Out) (nt W : Nat) (all : List Oper) (base i M m : Nat) (prev : List Rc) (l : List Oper) (tm : Tr SV) (h : Hs) (o : Oper) (r : Option (SV × List Up)) : Out :=
  @Option.rec (SV × List Up) (fun _ => Out) (.fail o.pos) (fun r => nextD rec nt W all base i M m prev l tm o.dst ⟨i, false, readsOf o.op tm.get, wrOf (Nat.add base i) r.2, Nat.add base i, Nat.add (Nat.add base i) 1⟩ r.1 (h.ups r.2)) r
noncomputable def nilB' : List Oper → Bool
  | [] => true
  | _ => false
/-- All operations ahead are ahead of this one whatever the order. -/
noncomputable def maskAll (m : Nat) : Nat → Bool
  | 0 => true
  | i + 1 => bitB m i && maskAll m i
noncomputable def allBits (m : Nat) : List Rc → Bool
  | [] => true
  | p :: ps => bitB m p.i && allBits m ps
noncomputable def doD (E : Env) (rec : Job → Out) (nt W : Nat) (all : List Oper) (base i M m : Nat) (prev : List Rc) (l : List Oper) (tm : Tr SV) (h : Hs) (o : Oper) (c : Option Call) : Out :=
  @Option.rec Call (fun _ => Out) (valD rec nt W all base i M m prev l tm h o (opA E o.op tm.get h.hp.get (Nat.add base i)))
    (fun c => goK1 rec ⟨hide m prev h.hp, h.nx, []⟩ (calleeV tm.get c.callee) (vals tm.get c.args.toList) (fun v h2 =>
      nextD rec nt W all base i M m prev l tm o.dst ⟨i, true, [], below h.nx h2.lg [], h.nx, h2.nx⟩ v ⟨unhide m h.hp prev h2.hp, h2.nx, below h.nx h2.lg h.lg⟩)
      fun v h2 => sel (nilB' l && (maskAll m i && allBits m prev)) (.code (.pan v) tm [] ⟨h2.hp, h2.nx, below h.nx h2.lg h.lg⟩) (.fail "panic in a drawn region")) c
noncomputable def wantD (E : Env) (rec : Job → Out) (nt W : Nat) (all : List Oper) (base i M m : Nat) (prev : List Rc) (l : List Oper) (tm : Tr SV) (h : Hs) (o : Oper) (w : Option Bool) : Out :=
  @Option.rec Bool (fun _ => Out) (.fail "wanted") (fun w => sel w (doD E rec nt W all base i M m prev l tm h o (callOf o.op)) (nextD rec nt W all base i M m prev l tm o.dst ⟨i, false, [], [], Nat.add base i, Nat.add (Nat.add base i) 1⟩ (.tup []) h)) w
noncomputable def stepDraw (E : Env) (rec : Job → Out) (nt W : Nat) (all : List Oper) (base i M : Nat) (prev : List Rc) (l : List Oper) (tm : Tr SV) (h : Hs) : Out :=
  @List.rec Oper (fun _ => Out) (.st tm h) (fun o l _ => sel (dstOk nt o.dst && allLt i (dirO o)) (force (Nat.mod (unionM W M (dirO o)) (Nat.pow 2 W)) fun m => wantD E rec nt W all base i M m prev l tm h o (wantedA all o tm.get)) (.fail "slot")) l

/-- The slots that an operation looks at. -/
noncomputable def tmpL : List Operand → List Nat
  | [] => []
  | x :: xs => (match x with | .tmp t => t :: tmpL xs | _ => tmpL xs)
noncomputable def looks (all : List Oper) (o : Oper) : List Nat := tmpL o.op.operands.toList ++ (match o.guard with | some g => (nthDst all g.1).toList | none => [])
noncomputable def slotsB (all : List Oper) (p r : Oper) : Bool := disjB p.dst.toList (looks all r) && (disjB r.dst.toList (looks all p) && disjB p.dst.toList r.dst.toList)
noncomputable def slotsAll (all : List Oper) (m : Nat) (r : Oper) : Nat → List Oper → Bool
  | _, [] => true
  | k, p :: ps => sel (bitB m k) (slotsAll all m r (Nat.sub k 1) ps) (sel (slotsB all p r) (slotsAll all m r (Nat.sub k 1) ps) false)
/-- Operations that are not ordered do not meet in the slots. prev: the operations ahead, the last one first. -/
noncomputable def slotsOk (W : Nat) (all : List Oper) : List Oper → Nat → Nat → List Oper → Bool
  | [], _, _, _ => true
  | o :: l, i, M, prev => force (Nat.mod (unionM W M (dirO o)) (Nat.pow 2 W)) fun m => sel (slotsAll all m o (Nat.sub i 1) prev) (force (Nat.lor M (Nat.shiftLeft m (Nat.mul i W))) fun M' => slotsOk W all l (Nat.add i 1) M' (o :: prev)) false
noncomputable def codeOk (c : Code) : Bool := @Code.rec (fun _ => Bool) true (fun _ ops draw => sel draw (slotsOk ops.size ops.toList ops.toList 0 0 []) true) (fun _ _ a b => a && b) (fun _ _ _ a b => a && b) (fun _ _ a => a) (fun _ a => a) (fun _ _ _ _ a b => a && b) (fun _ => true) (fun _ a => a) (fun _ => true) (fun _ => true) true (fun _ => true) c
noncomputable def funOk (fn : Func) : Bool := @Option.rec Code (fun _ => Bool) true codeOk fn.body

/-- Is it the end of a function, and does it panic? -/
noncomputable def endOf (e : Ex) : Option (Option SV) := @Ex.rec (fun _ => Option (Option SV)) (some none) (fun _ => none) (some none) (fun v => some (some v)) e
noncomputable def isRecover (o : Oper) : Bool :=
  match o.op, o.guard with
  | .call c, none => (match c.callee with | .builtin .recover => Nat.beq c.args.size 0 | _ => false)
  | _, _ => false
/-- What recover yields. -/
noncomputable def recV : Option SV → SV
  | none => .nili
  | some v => v
noncomputable def isNumG (s : String) : Bool := s == "runtime.NumGoroutine"
noncomputable def nilD : List Dm → Bool
  | [] => true
  | _ => false
noncomputable def isRetE (e : Ex) : Bool := @Ex.rec (fun _ => Bool) true (fun _ => false) true (fun _ => false) e
noncomputable def isNormal (e : Ex) : Bool := @Ex.rec (fun _ => Bool) true (fun _ => false) false (fun _ => false) e
/-- A deferred function's body behind its first region. -/
noncomputable def dRest (E : Env) (rec : Job → Out) (fn : Func) (rest : Code) (r : Out) (k : Hs → Out) : Out :=
  onCode r fun e tm mk h => sel (isNormal e && nilD mk) (onCode (rec (.code fn.ntmps rest tm [] h)) fun e2 tm2 mk2 h2 =>
    sel (isRetE e2 && nilD mk2) (@Option.rec (List SV) (fun _ => Out) (.fail "results") (fun _ => k h2) (resVars E tm2.get h2.hp.get fn.results.toList)) (.fail "deferred")) (.fail "deferred")
noncomputable def dBody (E : Env) (rec : Job → Out) (fn : Func) (as : List SV) (u : Option SV) (h : Hs) (all : List Oper) (rest : Code) (k : Hs → Out) : Out :=
  @List.rec Oper (fun _ => Out) (.fail "deferred") (fun o l _ => sel (isRecover o && dstOk fn.ntmps o.dst) (dRest E rec fn rest (rec (.ops fn.ntmps all l (putD (setArgs as 0 .nil) o.dst (recV u)) [] h)) k) (.fail "no recover")) all
noncomputable def dCode (E : Env) (rec : Job → Out) (fn : Func) (as : List SV) (u : Option SV) (h : Hs) (k : Hs → Out) (c : Option Code) : Out :=
  match c with
  | some (.seq (.region _ ops false) rest) => sel (Nat.ble as.length fn.ntmps) (sel (isNumG fn.name) (.fail "NumGoroutine") (dBody E rec fn as u h ops.toList rest k)) (.fail "args")
  | _ => .fail "deferred body"
noncomputable def dFun (E : Env) (rec : Job → Out) (fn : Option Func) (as : List SV) (u : Option SV) (h : Hs) (k : Hs → Out) : Out := @Option.rec Func (fun _ => Out) (.fail "no function") (fun fn => dCode E rec fn as u h k fn.body) fn
noncomputable def endR (E : Env) (fn : Func) (tm : Tr SV) (u : Option SV) (h : Hs) : Out :=
  @Option.rec SV (fun _ => Out) (@Option.rec (List SV) (fun _ => Out) (.fail fn.name) (fun vs => .res (oneOf vs) h) (resVars E tm.get h.hp.get fn.results.toList)) (fun v => .pan v h) u
/-- A function is left: what waits for its end. -/
noncomputable def leaveD (E : Env) (rec : Job → Out) (fn : Func) (tm : Tr SV) : List Dm → Option SV → Hs → Out
  | [], u, h => endR E fn tm u h
  | .mark d :: mk, u, h => (match h.hp.get d with | some .dfr => leaveD E rec fn tm mk u ⟨h.hp.set d none, h.nx, d :: h.lg⟩ | _ => .fail "mark")
  | .fn k as ca :: mk, u, h => dFun E rec (E.fn.get k) (as ++ ca) u h fun h' => leaveD E rec fn tm mk none h'
noncomputable def cutLg (nx : Nat) (lg : List Nat) (r : Out) : Out := resK r (fun v h => .res v ⟨h.hp, h.nx, below nx h.lg lg⟩) fun v h => .pan v ⟨h.hp, h.nx, below nx h.lg lg⟩
mutual
noncomputable def svB : SV → SV → Bool
  | .bool a, .bool b => (sel a b (!b))
  | .int k a, .int k' b => kindB k k' && a.eqb b
  | .str a, .str b => strB a b
  | .ptr a b, .ptr c d => Nat.beq a c && Nat.beq b d
  | .nilp, .nilp => true
  | .sl a b c d, .sl a' b' c' d' => Nat.beq a a' && (Nat.beq b b' && (Nat.beq c c' && cpB d d'))
  | .sle, .sle => true
  | .nils, .nils => true
  | .mp a, .mp b => Nat.beq a b
  | .nilm, .nilm => true
  | .fn (.func k) a c, .fn (.func k') a' c' => Nat.beq k k' && (svsB a a' && svsB c c')
  | .nilf, .nilf => true
  | .ifc t v, .ifc t' v' => Nat.beq t t' && svB v v'
  | .nili, .nili => true
  | .agg l, .agg l' => svsB l l'
  | .tup l, .tup l' => svsB l l'
  | _, _ => false
noncomputable def svsB : List SV → List SV → Bool
  | [], [] => true
  | x :: l, y :: m => svB x y && svsB l m
  | _, _ => false
end
noncomputable def entsB : List (SV × SV × Nat) → List (SV × SV × Nat) → Bool
  | [], [] => true
  | x :: l, y :: m => svB x.1 y.1 && (svB x.2.1 y.2.1 && (Nat.beq x.2.2 y.2.2 && entsB l m))
  | _, _ => false
/-- Surely the same block. -/
noncomputable def soB : Option SO → Option SO → Bool
  | some (.cells e cs), some (.cells e' cs') => Nat.beq e e' && svsB cs cs'
  | some (.map es c), some (.map es' c') => Nat.beq c c' && entsB es es'
  | _, _ => false
/-- What is not surely the same in both is given up. -/
noncomputable def meet (o : Hp) : List Nat → Hp → Hp
  | [], hp => hp
  | x :: l, hp => sel (soB (hp.get x) (o.get x)) (meet o l hp) (meet o l (hp.set x none))
noncomputable def maxN (a b : Nat) : Nat := sel (Nat.ble a b) b a
noncomputable def upTo (a : Nat) : Nat → List Nat
  | 0 => []
  | n + 1 => a :: upTo (a + 1) n
noncomputable def join2 (nx : Nat) (a b : Rs) : Rs := ⟨false, a.v, ⟨meet b.h.hp (upTo nx (Nat.sub (maxN a.h.nx b.h.nx) nx)) (meet b.h.hp (a.h.lg ++ b.h.lg) a.h.hp), maxN a.h.nx b.h.nx, a.h.lg ++ b.h.lg⟩⟩
noncomputable def joinA (nx : Nat) : Rs → List Rs → Out
  | a, [] => .ress [a]
  | a, b :: l => sel (a.pan || (b.pan || !svB a.v b.v)) (.fail "join") (joinA nx (join2 nx a b) l)
noncomputable def joinL (nx : Nat) (l : List Rs) : Out := @List.rec Rs (fun _ => Out) (.fail "no way") (fun a l _ => joinA nx a l) l
noncomputable def joinK (b : Bool) (nx : Nat) (r : Out) : Out := sel b (@Out.rec (fun _ => Out) (fun _ => .fail "join") (fun _ _ => .fail "join") (fun l => joinL nx l) (fun s => .fail s) (fun a b c => .trap a b c) r) r
noncomputable def retK (E : Env) (rec : Job → Out) (fn : Func) (nx : Nat) (lg : List Nat) (r : Out) : Out :=
  onCode r fun e tm mk h => @Option.rec (Option SV) (fun _ => Out) (.fail "exit") (fun u => cutLg nx lg (leaveD E rec fn tm mk u h)) (endOf e)
noncomputable def extK (fn : Func) (as : List SV) (h : Hs) : Out :=
  match as with
  | [a, b] => (match strOf a with | some a => (match strOf b with | some b => sel (fn.name == "internal/bytealg.abigen_runtime_cmpstring") (.res (.int .i64 (.lit (cmpStr a b))) h) (.fail fn.name) | _ => .fail fn.name) | _ => .fail fn.name)
  | _ => .fail fn.name
noncomputable def bodyOf (E : Env) (rec : Job → Out) (k : Nat) (fn : Func) (as : List SV) (h : Hs) : Out :=
  @Option.rec Code (fun _ => Out) (extK fn as h) (fun c => sel (Nat.ble as.length fn.ntmps) (sel (isNumG fn.name) (.fail "NumGoroutine") (joinK (memB k E.join) h.nx (retK E rec fn h.nx h.lg (rec (.code fn.ntmps c (setArgs as 0 .nil) [] ⟨h.hp, h.nx, []⟩))))) (.fail "args")) fn.body
noncomputable def funK (E : Env) (rec : Job → Out) (k : Nat) (fn : Option Func) (as : List SV) (h : Hs) : Out := @Option.rec Func (fun _ => Out) (.fail "no function") (fun fn => bodyOf E rec k fn as h) fn
noncomputable def finK (l : Nat) (h : Hs) (j : Option Code) : Out :=
  match h.hp.get l with
  | some (.loop nt tm0 ps as bo st pend dd) => .res (.bool j.isNone) (h.put l (.loop nt tm0 ps as bo (sel j.isNone .ready .done) j dd))
  | _ => .fail "loop gone"
/-- The jump that a round leaves behind. -/
noncomputable def exJ : Ex → Option Code
  | .normal => none
  | .ret => some .ret
  | .exit id => some (.exit id)
  | .pan _ => none
noncomputable def noPan (e : Ex) : Bool := @Ex.rec (fun _ => Bool) true (fun _ => true) true (fun _ => false) e
noncomputable def one2 (l : List Oc) (k : Oc → Out) : Out := @List.rec Oc (fun _ => Out) (.fail "no way") (fun r l _ => @List.rec Oc (fun _ => Out) (k r) (fun _ _ _ => .fail "many ways") l) l
noncomputable def oneC (r : Out) (k : Ex → Tr SV → List Dm → Hs → Out) : Out := @Out.rec (fun _ => Out) (fun l => one2 l fun o => k o.e o.tm o.dm o.h) (fun _ _ => .fail "oneC") (fun _ => .fail "oneC") (fun s => .fail s) (fun a b c => .trap a b c) r
noncomputable def roundEnd (l : Nat) (r : Out) : Out := oneC r fun e _ mk h => (match mk with | [] => sel (noPan e) (finK l h (exJ e)) (.fail "panic in a round") | _ => .fail "marks in a round")
noncomputable def isReady : LoopState → Bool
  | .ready => true
  | _ => false
noncomputable def bodyK (rec : Job → Out) (l nt : Nat) (bo : Code) (tm : Tr SV) (mk : List Dm) (h : Hs) : Out :=
  match h.hp.get l with
  | some (.loop nt' tm0 ps as bo' st pend dd) => (match mk with | [] => sel (isReady st) (roundEnd l (rec (.code nt bo tm [] (h.put l (.loop nt' tm0 ps as bo' .busy pend dd))))) (.fail "not ready") | _ => .fail "marks")
  | _ => .fail "loop gone"
noncomputable def roundK (rec : Job → Out) (l nt : Nat) (as bo : Code) (tm1 : Option (Tr SV)) (h : Hs) : Out :=
  match tm1 with
  | none => .fail "params"
  | some tm1 => oneC (rec (.code nt as tm1 [] h)) fun e tm mk h1 => sel (isNormal e) (bodyK rec l nt bo tm mk h1) (.fail "assign")
noncomputable def yieldK (rec : Job → Out) (l : Nat) (o : Option SO) (as : List SV) (h : Hs) : Out :=
  match o with
  | some (.loop nt tm0 ps as' bo st pend dd) => sel (isReady st) (roundK rec l nt as' bo (setParams nt tm0 ps as) h) (.fail "yield")
  | _ => .fail "yield"
noncomputable def findL (k : Nat) : List (Nat × SV) → Option SV
  | [] => none
  | p :: l => sel (Nat.beq p.1 k) (some p.2) (findL k l)
noncomputable def findDone (E : Env) (k : Nat) (as : List SV) : Option SV := @List.rec SV (fun _ => Option SV) (findL k E.done) (fun _ _ _ => none) as
noncomputable def isFn : SV → Bool
  | .fn _ _ _ => true
  | _ => false
noncomputable def tinyS : SV → Bool
  | .sl _ _ n _ => Nat.ble n 1
  | .nils => true
  | .sle => true
  | _ => false
noncomputable def tinyT (k : Nat) (t : Nat) : List (Nat × Nat) → Bool
  | [] => false
  | p :: l => (Nat.beq p.1 k && Nat.beq p.2 t) || tinyT k t l
/-- A sort of what is sorted. -/
noncomputable def isTiny (E : Env) (k : Nat) : List SV → Bool
  | [.ifc t x, y] => tinyT k t E.tiny && (tinyS x && isFn y)
  | _ => false
noncomputable def mkHp : List (Nat × SO) → Hp → Hp
  | [], h => h
  | p :: l, h => (mkHp l h).set p.1 (some p.2)
noncomputable def inB (h : Hp) : List (Nat × SO) → Bool
  | [] => true
  | p :: l => soB (h.get p.1) (some p.2) && inB h l
mutual
/-- Every place that a value names is one of a list. -/
noncomputable def inS (S : List Nat) : SV → Bool
  | .bool _ => true
  | .int _ _ => true
  | .str _ => true
  | .ptr a _ => memB a S
  | .nilp => true
  | .sl a _ _ _ => memB a S
  | .sle => true
  | .nils => true
  | .mp a => memB a S
  | .nilm => true
  | .fn _ a c => inSs S a && inSs S c
  | .yld _ => false
  | .nilf => true
  | .ifc _ v => inS S v
  | .nili => true
  | .agg l => inSs S l
  | .tup l => inSs S l
  | .undef => false
noncomputable def inSs (S : List Nat) : List SV → Bool
  | [] => true
  | x :: l => inS S x && inSs S l
end
noncomputable def inEs (S : List Nat) : List (SV × SV × Nat) → Bool
  | [] => true
  | e :: l => (inS S e.1 && inS S e.2.1) && inEs S l
noncomputable def inO (S : List Nat) : SO → Bool
  | .cells _ cs => inSs S cs
  | .map es _ => inEs S es
  | _ => false
noncomputable def inOs (S : List Nat) : List (Nat × SO) → Bool
  | [] => true
  | p :: l => inO S p.2 && inOs S l
mutual
/-- A value whose places get other numbers. -/
noncomputable def renS (τ : Nat → Nat) : SV → SV
  | .bool b => .bool b
  | .int k e => .int k e
  | .str s => .str s
  | .ptr a o => .ptr (τ a) o
  | .nilp => .nilp
  | .sl a o n c => .sl (τ a) o n c
  | .sle => .sle
  | .nils => .nils
  | .mp a => .mp (τ a)
  | .nilm => .nilm
  | .fn f a c => .fn f (renSs τ a) (renSs τ c)
  | .yld a => .yld (τ a)
  | .nilf => .nilf
  | .ifc t v => .ifc t (renS τ v)
  | .nili => .nili
  | .agg l => .agg (renSs τ l)
  | .tup l => .tup (renSs τ l)
  | .undef => .undef
noncomputable def renSs (τ : Nat → Nat) : List SV → List SV
  | [] => []
  | x :: l => renS τ x :: renSs τ l
end
noncomputable def renEs (τ : Nat → Nat) : List (SV × SV × Nat) → List (SV × SV × Nat)
  | [] => []
  | e :: l => (renS τ e.1, renS τ e.2.1, e.2.2) :: renEs τ l
noncomputable def renO (τ : Nat → Nat) : SO → SO
  | .cells e cs => .cells e (renSs τ cs)
  | .map es c => .map (renEs τ es) c
  | o => o
noncomputable def renL (τ : Nat → Nat) : List (Nat × SO) → List (Nat × SO)
  | [] => []
  | p :: l => (τ p.1, renO τ p.2) :: renL τ l
noncomputable def plainO : SO → Bool
  | .cells _ _ => true
  | .map _ _ => true
  | _ => false
mutual
/-- The places of two values, side by side. -/
noncomputable def colS : SV → SV → List (Nat × Nat)
  | .ptr a _, .ptr b _ => [(a, b)]
  | .sl a _ _ _, .sl b _ _ _ => [(a, b)]
  | .mp a, .mp b => [(a, b)]
  | .fn _ a c, .fn _ a' c' => colSs a a' ++ colSs c c'
  | .ifc _ v, .ifc _ v' => colS v v'
  | .agg l, .agg l' => colSs l l'
  | .tup l, .tup l' => colSs l l'
  | _, _ => []
noncomputable def colSs : List SV → List SV → List (Nat × Nat)
  | x :: l, y :: m => colS x y ++ colSs l m
  | _, _ => []
end
noncomputable def colEs : List (SV × SV × Nat) → List (SV × SV × Nat) → List (Nat × Nat)
  | x :: l, y :: m => colS x.1 y.1 ++ (colS x.2.1 y.2.1 ++ colEs l m)
  | _, _ => []
noncomputable def colO : SO → Option SO → List (Nat × Nat)
  | .cells _ cs, some (.cells _ cs') => colSs cs cs'
  | .map es _, some (.map es' _) => colEs es es'
  | _, _ => []
noncomputable def lookN (a : Nat) : List (Nat × Nat) → Option Nat
  | [] => none
  | p :: l => sel (Nat.beq p.1 a) (some p.2) (lookN a l)
noncomputable def lookD (a : Nat) (σ : List (Nat × Nat)) (h : Hp) (o : SO) : List (Nat × Nat) := @Option.rec Nat (fun _ => List (Nat × Nat)) [] (fun b => colO o (h.get b)) (lookN a σ)
noncomputable def colI (h : Hp) : List (Nat × SO) → List (Nat × Nat) → List (Nat × Nat)
  | [], σ => σ
  | p :: l, σ => colI h l (σ ++ lookD p.1 σ h p.2)
noncomputable def tau (σ : List (Nat × Nat)) (nx N a : Nat) : Nat := sel (Nat.ble nx a) (Nat.add N (Nat.sub a nx)) ((lookN a σ).getD 0)
/-- A known call at other numbers. -/
noncomputable def Mo.ren (m : Mo) (τ : Nat → Nat) (N : Nat) : Mo := ⟨m.k, renSs τ m.as, renL τ m.inp, N, renS τ m.v, renL τ m.out, Nat.add N (Nat.sub m.nx' m.nx)⟩
noncomputable def belowB (τ : Nat → Nat) (N : Nat) : List (Nat × SO) → Bool
  | [] => true
  | p :: l => Nat.ble (Nat.succ (τ p.1)) N && belowB τ N l
noncomputable def diffB (τ : Nat → Nat) : List (Nat × SO) → Bool
  | [] => true
  | p :: l => !memB (τ p.1) (l.map fun q => τ q.1) && diffB τ l
noncomputable def okRn (m : Mo) (τ : Nat → Nat) (N : Nat) : Bool := belowB τ N m.inp && diffB τ m.inp
noncomputable def fitsM (m : Mo) (τ : Nat → Nat) (as : List SV) (h : Hs) (m' : Mo) : Option Mo := sel (okRn m τ h.nx && (svsB as m'.as && inB h.hp m'.inp)) (some m') none
noncomputable def relM (m : Mo) (τ : Nat → Nat) (as : List SV) (h : Hs) : Option Mo := fitsM m τ as h (m.ren τ h.nx)
noncomputable def tryM (k : Nat) (as : List SV) (h : Hs) (m : Mo) : Option Mo := sel (Nat.beq m.k k) (relM m (tau (colI h.hp m.inp (colSs m.as as)) m.nx h.nx) as h) none
noncomputable def findMo (k : Nat) (as : List SV) (h : Hs) : List Mo → Option Mo
  | [] => none
  | m :: l => @Option.rec Mo (fun _ => Option Mo) (findMo k as h l) (fun m' => some m') (tryM k as h m)
noncomputable def laidM (m : Mo) (h : Hs) : Hs := ⟨mkHp m.out h.hp, m.nx', m.out.map (·.1) ++ h.lg⟩
noncomputable def fnK (E : Env) (rec : Job → Out) (f : Fn) (as : List SV) (h : Hs) : Out :=
  match f with
  | .func k => @Option.rec SV (fun _ => Out) (@Option.rec Mo (fun _ => Out) (sel (memB k E.stop) (.trap k as h) (sel (isTiny E k as) (.res (.tup []) h) (funK E rec k (E.fn.get k) as h))) (fun m => .res m.v (laidM m h)) (findMo k as h E.memo)) (fun v => .res v h) (findDone E k as)
  | _ => .fail "callee"
noncomputable def callD (x : SV) : Env → (Job → Out) → List SV → Hs → Out := @SV.rec (fun _ => Env → (Job → Out) → List SV → Hs → Out) (fun _ => PUnit) (fun _ => fun _ _ _ _ => .fail "callee value") (fun _ _ => fun _ _ _ _ => .fail "callee value") (fun _ => fun _ _ _ _ => .fail "callee value") (fun _ _ => fun _ _ _ _ => .fail "callee value") (fun _ _ _ _ => .fail "callee value") (fun _ _ _ _ => fun _ _ _ _ => .fail "callee value") (fun _ _ _ _ => .fail "callee value") (fun _ _ _ _ => .fail "callee value") (fun _ => fun _ _ _ _ => .fail "callee value") (fun _ _ _ _ => .fail "callee value") (fun f first caps _ _ => fun E rec as h => fnK E rec f (first ++ as ++ caps) h) (fun l => fun _ rec as h => yieldK rec l (h.hp.get l) as h) (fun _ _ _ _ => .fail "callee value") (fun _ _ _ => fun _ _ _ _ => .fail "callee value") (fun _ _ _ _ => .fail "callee value") (fun _ _ => fun _ _ _ _ => .fail "callee value") (fun _ _ => fun _ _ _ _ => .fail "callee value") (fun _ _ _ _ => .fail "callee value") PUnit.unit (fun _ _ _ _ => PUnit.unit) x
noncomputable def step (E : Env) (rec : Job → Out) (j : Job) : Out :=
  @Job.rec (fun _ => Out) (fun nt c tm mk h => codeD c E rec nt tm mk h) (fun nt all l tm mk h => stepOps E rec nt all l tm mk h) (fun nt W all base i M prev l tm h => stepDraw E rec nt W all base i M prev l tm h) (fun f as h => callD f E rec as h) j

/-- THE RUN. -/
noncomputable def run (E : Env) (n : Nat) : Job → Out := @Nat.rec (fun _ => Job → Out) (fun _ => .fail "fuel") (fun _ ih j => step E ih j) n

end Go.Sim
