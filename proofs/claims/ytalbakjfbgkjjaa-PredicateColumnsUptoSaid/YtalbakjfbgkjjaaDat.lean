/- The plain data of the program, their cells and rows; written by a program (comp.py). -/
import Derived.Test.YtalbakjfbgkjjaaTys
import Derived.Test.YtalbakjfbgkjjaaAbs22
set_option maxRecDepth 100000
set_option linter.all false
namespace Go.Proofs.Ytalbakjfbgkjjaa
open Go.Abs

def enc2 (x : Int) : List AV := [.int .i64 x]
def rows2 (xs : List Int) : List (List AV) := xs.map enc2
theorem rows2_map (xs : List Int) : rows2 xs = xs.map enc2 := rfl
def enc3 (x : Int) : List AV := [.int .i64 x]
def rows3 (xs : List Int) : List (List AV) := xs.map enc3
theorem rows3_map (xs : List Int) : rows3 xs = xs.map enc3 := rfl
def enc4 (x : Bool) : List AV := [.bool x]
def rows4 (xs : List Bool) : List (List AV) := xs.map enc4
theorem rows4_map (xs : List Bool) : rows4 xs = xs.map enc4 := rfl
def enc5 (x : Int) : List AV := [.int .u8 x]
def rows5 (xs : List Int) : List (List AV) := xs.map enc5
theorem rows5_map (xs : List Int) : rows5 xs = xs.map enc5 := rfl
def enc9 (x : ByteArray) : List AV := [.str x]
def rows9 (xs : List ByteArray) : List (List AV) := xs.map enc9
theorem rows9_map (xs : List ByteArray) : rows9 xs = xs.map enc9 := rfl
def enc22 (x : (List Int)) : List AV := [.slice .sh (rows5 x)]
def rows22 (xs : List (List Int)) : List (List AV) := xs.map enc22
theorem rows22_map (xs : List (List Int)) : rows22 xs = xs.map enc22 := rfl
structure TValue where
  fKind : Int
  fInt : Int
  fText : ByteArray
  deriving DecidableEq

def enc23 (x : TValue) : List AV := [.int .i64 x.fKind, .int .i64 x.fInt, .str x.fText]
def rows23 (xs : List TValue) : List (List AV) := xs.map enc23
theorem rows23_map (xs : List TValue) : rows23 xs = xs.map enc23 := rfl
structure TOperand where
  fKind : Int
  fIndex : Int
  fValue : TValue
  deriving DecidableEq

def enc25 (x : TOperand) : List AV := [.int .i64 x.fKind, .int .i64 x.fIndex, .int .i64 x.fValue.fKind, .int .i64 x.fValue.fInt, .str x.fValue.fText]
def rows25 (xs : List TOperand) : List (List AV) := xs.map enc25
theorem rows25_map (xs : List TOperand) : rows25 xs = xs.map enc25 := rfl
structure TPredicate where
  fOp : Int
  fCmp : Int
  fLeft : TOperand
  fRight : TOperand
  fArgs : (List TPredicate)

mutual
def encR28 : TPredicate → List AV
  | ⟨fOp, fCmp, fLeft, fRight, fArgs⟩ => [.int .i64 fOp, .int .i64 fCmp, .int .i64 fLeft.fKind, .int .i64 fLeft.fIndex, .int .i64 fLeft.fValue.fKind, .int .i64 fLeft.fValue.fInt, .str fLeft.fValue.fText, .int .i64 fRight.fKind, .int .i64 fRight.fIndex, .int .i64 fRight.fValue.fKind, .int .i64 fRight.fValue.fInt, .str fRight.fValue.fText, .slice .sh (rows28 fArgs)]
def rows28 : List TPredicate → List (List AV)
  | [] => []
  | x :: xs => encR28 x :: rows28 xs
end
def enc28 (x : TPredicate) : List AV := [.int .i64 x.fOp, .int .i64 x.fCmp, .int .i64 x.fLeft.fKind, .int .i64 x.fLeft.fIndex, .int .i64 x.fLeft.fValue.fKind, .int .i64 x.fLeft.fValue.fInt, .str x.fLeft.fValue.fText, .int .i64 x.fRight.fKind, .int .i64 x.fRight.fIndex, .int .i64 x.fRight.fValue.fKind, .int .i64 x.fRight.fValue.fInt, .str x.fRight.fValue.fText, .slice .sh (rows28 x.fArgs)]
theorem encR28_eq (x : TPredicate) : encR28 x = enc28 x := by cases x; simp [encR28, enc28]
theorem rows28_map (xs : List TPredicate) : rows28 xs = xs.map enc28 := by
  induction xs with
  | nil => simp [rows28]
  | cons x xs ih => simp [rows28, ih, encR28_eq]
def enc27 (x : (List TPredicate)) : List AV := [.slice .sh (rows28 x)]
def rows27 (xs : List (List TPredicate)) : List (List AV) := xs.map enc27
theorem rows27_map (xs : List (List TPredicate)) : rows27 xs = xs.map enc27 := rfl
def enc30 (x : (List Int)) : List AV := [.slice .sh (rows3 x)]
def rows30 (xs : List (List Int)) : List (List AV) := xs.map enc30
theorem rows30_map (xs : List (List Int)) : rows30 xs = xs.map enc30 := rfl
structure TCase where
  fcodes : (List Int)
  fat : Int
  deriving DecidableEq

def enc57 (x : TCase) : List AV := [.slice .sh (rows5 x.fcodes), .int .i64 x.fat]
def rows57 (xs : List TCase) : List (List AV) := xs.map enc57
theorem rows57_map (xs : List TCase) : rows57 xs = xs.map enc57 := rfl
def enc40 (x : (List TValue)) : List AV := [.slice .sh (rows23 x)]
def rows40 (xs : List (List TValue)) : List (List AV) := xs.map enc40
theorem rows40_map (xs : List (List TValue)) : rows40 xs = xs.map enc40 := rfl
def enc55 (x : Nat) : List AV := [fnAV x]
def rows55 (xs : List Nat) : List (List AV) := xs.map enc55
theorem rows55_map (xs : List Nat) : rows55 xs = xs.map enc55 := rfl
structure Tkinds where
  fcolumns : (List Int)
  fparams : (List Int)
  deriving DecidableEq

def enc64 (x : Tkinds) : List AV := [.slice .sh (rows3 x.fcolumns), .slice .sh (rows3 x.fparams)]
def rows64 (xs : List Tkinds) : List (List AV) := xs.map enc64
theorem rows64_map (xs : List Tkinds) : rows64 xs = xs.map enc64 := rfl
def enc72 (x : Nat) : List AV := [fnAV x]
def rows72 (xs : List Nat) : List (List AV) := xs.map enc72
theorem rows72_map (xs : List Nat) : rows72 xs = xs.map enc72 := rfl
structure T89 where
  f0 : Nat
  f1 : Nat
  f2 : Nat
  f3 : Nat
  f4 : Nat
  f5 : Nat
  f6 : Nat
  deriving DecidableEq

def enc89 (x : T89) : List AV := [fnAV x.f0, fnAV x.f1, fnAV x.f2, fnAV x.f3, fnAV x.f4, fnAV x.f5, fnAV x.f6]
def rows89 (xs : List T89) : List (List AV) := xs.map enc89
theorem rows89_map (xs : List T89) : rows89 xs = xs.map enc89 := rfl
structure T93 where
  f0 : TOperand
  f1 : TOperand
  deriving DecidableEq

def enc93 (x : T93) : List AV := [.int .i64 x.f0.fKind, .int .i64 x.f0.fIndex, .int .i64 x.f0.fValue.fKind, .int .i64 x.f0.fValue.fInt, .str x.f0.fValue.fText, .int .i64 x.f1.fKind, .int .i64 x.f1.fIndex, .int .i64 x.f1.fValue.fKind, .int .i64 x.f1.fValue.fInt, .str x.f1.fValue.fText]
def rows93 (xs : List T93) : List (List AV) := xs.map enc93
theorem rows93_map (xs : List T93) : rows93 xs = xs.map enc93 := rfl
def enc96 (x : Int) : List AV := [.int .u64 x]
def rows96 (xs : List Int) : List (List AV) := xs.map enc96
theorem rows96_map (xs : List Int) : rows96 xs = xs.map enc96 := rfl
def enc97 (x : (List TOperand)) : List AV := [.slice .sh (rows25 x)]
def rows97 (xs : List (List TOperand)) : List (List AV) := xs.map enc97
theorem rows97_map (xs : List (List TOperand)) : rows97 xs = xs.map enc97 := rfl
def enc110 (x : Int) : List AV := [.int .u32 x]
def rows110 (xs : List Int) : List (List AV) := xs.map enc110
theorem rows110_map (xs : List Int) : rows110 xs = xs.map enc110 := rfl
def enc112 (x : Int) : List AV := [.int .u64 x]
def rows112 (xs : List Int) : List (List AV) := xs.map enc112
theorem rows112_map (xs : List Int) : rows112 xs = xs.map enc112 := rfl
theorem R22 : RowsOK Try.prog 22 5 enc5 rows5 := ⟨by kernel_rfl, by kernel_rfl, fun x => by kernel_rfl, rows5_map, fun x => by kernel_rfl⟩
theorem R27 : RowsOK Try.prog 27 29 enc28 rows28 := ⟨by kernel_rfl, by kernel_rfl, fun x => by kernel_rfl, rows28_map, fun x => by kernel_rfl⟩
theorem R30 : RowsOK Try.prog 30 3 enc3 rows3 := ⟨by kernel_rfl, by kernel_rfl, fun x => by kernel_rfl, rows3_map, fun x => by kernel_rfl⟩
theorem R40 : RowsOK Try.prog 40 24 enc23 rows23 := ⟨by kernel_rfl, by kernel_rfl, fun x => by kernel_rfl, rows23_map, fun x => by kernel_rfl⟩
theorem R41 : RowsOK Try.prog 41 24 enc23 rows23 := ⟨by kernel_rfl, by kernel_rfl, fun x => by kernel_rfl, rows23_map, fun x => by kernel_rfl⟩
theorem R97 : RowsOK Try.prog 97 26 enc25 rows25 := ⟨by kernel_rfl, by kernel_rfl, fun x => by kernel_rfl, rows25_map, fun x => by kernel_rfl⟩

end Go.Proofs.Ytalbakjfbgkjjaa
