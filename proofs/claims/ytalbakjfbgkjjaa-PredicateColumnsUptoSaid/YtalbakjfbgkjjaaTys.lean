/- Facts on the types and notes on the functions of this seat, written by a program (gen.py). No condition. -/
import Derived.Test.YtalbakjfbgkjjaaAbs22
import Derived.Test.YtalbakjfbgkjjaaRows
namespace Go.Proofs.Ytalbakjfbgkjjaa
open Go.Abs

theorem agg2 : aggT Try.prog 2 = some false := by kernel_rfl
theorem cells2 : Try.prog.cellsOf 2 = 1 := by kernel_rfl
theorem info2 : (Try.prog.info? 2).isSome = true := by kernel_rfl
theorem guard2 : Try.prog.eqGuardType Try.prog.depth 2 = false := by kernel_rfl
theorem zero2 : zeroA Try.prog 2 = some [.int .i64 0] := by kernel_rfl
theorem agg3 : aggT Try.prog 3 = some false := by kernel_rfl
theorem cells3 : Try.prog.cellsOf 3 = 1 := by kernel_rfl
theorem info3 : (Try.prog.info? 3).isSome = true := by kernel_rfl
theorem guard3 : Try.prog.eqGuardType Try.prog.depth 3 = false := by kernel_rfl
theorem zero3 : zeroA Try.prog 3 = some [.int .i64 0] := by kernel_rfl
theorem agg4 : aggT Try.prog 4 = some false := by kernel_rfl
theorem cells4 : Try.prog.cellsOf 4 = 1 := by kernel_rfl
theorem info4 : (Try.prog.info? 4).isSome = true := by kernel_rfl
theorem guard4 : Try.prog.eqGuardType Try.prog.depth 4 = false := by kernel_rfl
theorem zero4 : zeroA Try.prog 4 = some [.bool false] := by kernel_rfl
theorem agg5 : aggT Try.prog 5 = some false := by kernel_rfl
theorem cells5 : Try.prog.cellsOf 5 = 1 := by kernel_rfl
theorem info5 : (Try.prog.info? 5).isSome = true := by kernel_rfl
theorem guard5 : Try.prog.eqGuardType Try.prog.depth 5 = false := by kernel_rfl
theorem zero5 : zeroA Try.prog 5 = some [.int .u8 0] := by kernel_rfl
theorem agg9 : aggT Try.prog 9 = some false := by kernel_rfl
theorem cells9 : Try.prog.cellsOf 9 = 1 := by kernel_rfl
theorem info9 : (Try.prog.info? 9).isSome = true := by kernel_rfl
theorem guard9 : Try.prog.eqGuardType Try.prog.depth 9 = false := by kernel_rfl
theorem zero9 : zeroA Try.prog 9 = some [.str ByteArray.empty] := by kernel_rfl
theorem agg22 : aggT Try.prog 22 = some false := by kernel_rfl
theorem cells22 : Try.prog.cellsOf 22 = 1 := by kernel_rfl
theorem info22 : (Try.prog.info? 22).isSome = true := by kernel_rfl
theorem guard22 : Try.prog.eqGuardType Try.prog.depth 22 = false := by kernel_rfl
theorem zero22 : zeroA Try.prog 22 = some [.slice .nil []] := by kernel_rfl
theorem app22 : appT Try.prog 22 = some (5, 1) := by kernel_rfl
theorem agg24 : aggT Try.prog 24 = some true := by kernel_rfl
theorem cells24 : Try.prog.cellsOf 24 = 3 := by kernel_rfl
theorem info24 : (Try.prog.info? 24).isSome = true := by kernel_rfl
theorem guard24 : Try.prog.eqGuardType Try.prog.depth 24 = false := by kernel_rfl
theorem zero24 : zeroA Try.prog 24 = some [.int .i64 0, .int .i64 0, .str ByteArray.empty] := by kernel_rfl
theorem build24 (pcs : List (Nat × List AV)) : buildA Try.prog 24 pcs = (fillA (fun i => [(0, 1), (1, 1), (2, 1)][i]?) [.int .i64 0, .int .i64 0, .str ByteArray.empty] pcs).map .agg := by
  have h : placesA Try.prog (Try.prog.fieldsOf 24).toList = some [(0, 1), (1, 1), (2, 1)] := by kernel_rfl
  simp only [Program.fieldsOf, Try.underlying24] at h
  simp only [buildA, zero24, Try.underlying24, h, List.getElem?_toArray]
theorem stood24 : Try.prog.stoodInHeld 24 = false := by kernel_rfl
theorem agg26 : aggT Try.prog 26 = some true := by kernel_rfl
theorem cells26 : Try.prog.cellsOf 26 = 5 := by kernel_rfl
theorem info26 : (Try.prog.info? 26).isSome = true := by kernel_rfl
theorem guard26 : Try.prog.eqGuardType Try.prog.depth 26 = false := by kernel_rfl
theorem zero26 : zeroA Try.prog 26 = some [.int .i64 0, .int .i64 0, .int .i64 0, .int .i64 0, .str ByteArray.empty] := by kernel_rfl
theorem build26 (pcs : List (Nat × List AV)) : buildA Try.prog 26 pcs = (fillA (fun i => [(0, 1), (1, 1), (2, 3)][i]?) [.int .i64 0, .int .i64 0, .int .i64 0, .int .i64 0, .str ByteArray.empty] pcs).map .agg := by
  have h : placesA Try.prog (Try.prog.fieldsOf 26).toList = some [(0, 1), (1, 1), (2, 3)] := by kernel_rfl
  simp only [Program.fieldsOf, Try.underlying26] at h
  simp only [buildA, zero26, Try.underlying26, h, List.getElem?_toArray]
theorem stood26 : Try.prog.stoodInHeld 26 = false := by kernel_rfl
theorem agg27 : aggT Try.prog 27 = some false := by kernel_rfl
theorem cells27 : Try.prog.cellsOf 27 = 1 := by kernel_rfl
theorem info27 : (Try.prog.info? 27).isSome = true := by kernel_rfl
theorem guard27 : Try.prog.eqGuardType Try.prog.depth 27 = false := by kernel_rfl
theorem zero27 : zeroA Try.prog 27 = some [.slice .nil []] := by kernel_rfl
theorem app27 : appT Try.prog 27 = some (29, 13) := by kernel_rfl
theorem agg29 : aggT Try.prog 29 = some true := by kernel_rfl
theorem cells29 : Try.prog.cellsOf 29 = 13 := by kernel_rfl
theorem info29 : (Try.prog.info? 29).isSome = true := by kernel_rfl
theorem guard29 : Try.prog.eqGuardType Try.prog.depth 29 = false := by kernel_rfl
theorem zero29 : zeroA Try.prog 29 = some [.int .i64 0, .int .i64 0, .int .i64 0, .int .i64 0, .int .i64 0, .int .i64 0, .str ByteArray.empty, .int .i64 0, .int .i64 0, .int .i64 0, .int .i64 0, .str ByteArray.empty, .slice .nil []] := by kernel_rfl
theorem build29 (pcs : List (Nat × List AV)) : buildA Try.prog 29 pcs = (fillA (fun i => [(0, 1), (1, 1), (2, 5), (7, 5), (12, 1)][i]?) [.int .i64 0, .int .i64 0, .int .i64 0, .int .i64 0, .int .i64 0, .int .i64 0, .str ByteArray.empty, .int .i64 0, .int .i64 0, .int .i64 0, .int .i64 0, .str ByteArray.empty, .slice .nil []] pcs).map .agg := by
  have h : placesA Try.prog (Try.prog.fieldsOf 29).toList = some [(0, 1), (1, 1), (2, 5), (7, 5), (12, 1)] := by kernel_rfl
  simp only [Program.fieldsOf, Try.underlying29] at h
  simp only [buildA, zero29, Try.underlying29, h, List.getElem?_toArray]
theorem stood29 : Try.prog.stoodInHeld 29 = false := by kernel_rfl
theorem agg30 : aggT Try.prog 30 = some false := by kernel_rfl
theorem cells30 : Try.prog.cellsOf 30 = 1 := by kernel_rfl
theorem info30 : (Try.prog.info? 30).isSome = true := by kernel_rfl
theorem guard30 : Try.prog.eqGuardType Try.prog.depth 30 = false := by kernel_rfl
theorem zero30 : zeroA Try.prog 30 = some [.slice .nil []] := by kernel_rfl
theorem app30 : appT Try.prog 30 = some (3, 1) := by kernel_rfl
theorem agg31 : aggT Try.prog 31 = some false := by kernel_rfl
theorem cells31 : Try.prog.cellsOf 31 = 1 := by kernel_rfl
theorem info31 : (Try.prog.info? 31).isSome = true := by kernel_rfl
theorem guard31 : Try.prog.eqGuardType Try.prog.depth 31 = false := by kernel_rfl
theorem zero31 : zeroA Try.prog 31 = some [.undef] := by kernel_rfl
theorem agg37 : aggT Try.prog 37 = some false := by kernel_rfl
theorem cells37 : Try.prog.cellsOf 37 = 1 := by kernel_rfl
theorem info37 : (Try.prog.info? 37).isSome = true := by kernel_rfl
theorem guard37 : Try.prog.eqGuardType Try.prog.depth 37 = false := by kernel_rfl
theorem zero37 : zeroA Try.prog 37 = some [.int .i64 0] := by kernel_rfl
theorem agg40 : aggT Try.prog 40 = some false := by kernel_rfl
theorem cells40 : Try.prog.cellsOf 40 = 1 := by kernel_rfl
theorem info40 : (Try.prog.info? 40).isSome = true := by kernel_rfl
theorem guard40 : Try.prog.eqGuardType Try.prog.depth 40 = false := by kernel_rfl
theorem zero40 : zeroA Try.prog 40 = some [.slice .nil []] := by kernel_rfl
theorem app40 : appT Try.prog 40 = some (24, 3) := by kernel_rfl
theorem agg41 : aggT Try.prog 41 = some false := by kernel_rfl
theorem cells41 : Try.prog.cellsOf 41 = 1 := by kernel_rfl
theorem info41 : (Try.prog.info? 41).isSome = true := by kernel_rfl
theorem guard41 : Try.prog.eqGuardType Try.prog.depth 41 = false := by kernel_rfl
theorem zero41 : zeroA Try.prog 41 = some [.slice .nil []] := by kernel_rfl
theorem app41 : appT Try.prog 41 = some (24, 3) := by kernel_rfl
theorem agg55 : aggT Try.prog 55 = some false := by kernel_rfl
theorem cells55 : Try.prog.cellsOf 55 = 1 := by kernel_rfl
theorem info55 : (Try.prog.info? 55).isSome = true := by kernel_rfl
theorem guard55 : Try.prog.eqGuardType Try.prog.depth 55 = false := by kernel_rfl
theorem zero55 : zeroA Try.prog 55 = some [.nilFunc] := by kernel_rfl
theorem agg58 : aggT Try.prog 58 = some true := by kernel_rfl
theorem cells58 : Try.prog.cellsOf 58 = 2 := by kernel_rfl
theorem info58 : (Try.prog.info? 58).isSome = true := by kernel_rfl
theorem guard58 : Try.prog.eqGuardType Try.prog.depth 58 = false := by kernel_rfl
theorem zero58 : zeroA Try.prog 58 = some [.slice .nil [], .int .i64 0] := by kernel_rfl
theorem build58 (pcs : List (Nat × List AV)) : buildA Try.prog 58 pcs = (fillA (fun i => [(0, 1), (1, 1)][i]?) [.slice .nil [], .int .i64 0] pcs).map .agg := by
  have h : placesA Try.prog (Try.prog.fieldsOf 58).toList = some [(0, 1), (1, 1)] := by kernel_rfl
  simp only [Program.fieldsOf, Try.underlying58] at h
  simp only [buildA, zero58, Try.underlying58, h, List.getElem?_toArray]
theorem stood58 : Try.prog.stoodInHeld 58 = false := by kernel_rfl
theorem agg63 : aggT Try.prog 63 = some false := by kernel_rfl
theorem cells63 : Try.prog.cellsOf 63 = 1 := by kernel_rfl
theorem info63 : (Try.prog.info? 63).isSome = true := by kernel_rfl
theorem guard63 : Try.prog.eqGuardType Try.prog.depth 63 = false := by kernel_rfl
theorem zero63 : zeroA Try.prog 63 = some [.undef] := by kernel_rfl
theorem agg65 : aggT Try.prog 65 = some true := by kernel_rfl
theorem cells65 : Try.prog.cellsOf 65 = 2 := by kernel_rfl
theorem info65 : (Try.prog.info? 65).isSome = true := by kernel_rfl
theorem guard65 : Try.prog.eqGuardType Try.prog.depth 65 = false := by kernel_rfl
theorem zero65 : zeroA Try.prog 65 = some [.slice .nil [], .slice .nil []] := by kernel_rfl
theorem build65 (pcs : List (Nat × List AV)) : buildA Try.prog 65 pcs = (fillA (fun i => [(0, 1), (1, 1)][i]?) [.slice .nil [], .slice .nil []] pcs).map .agg := by
  have h : placesA Try.prog (Try.prog.fieldsOf 65).toList = some [(0, 1), (1, 1)] := by kernel_rfl
  simp only [Program.fieldsOf, Try.underlying65] at h
  simp only [buildA, zero65, Try.underlying65, h, List.getElem?_toArray]
theorem stood65 : Try.prog.stoodInHeld 65 = false := by kernel_rfl
theorem agg72 : aggT Try.prog 72 = some false := by kernel_rfl
theorem cells72 : Try.prog.cellsOf 72 = 1 := by kernel_rfl
theorem info72 : (Try.prog.info? 72).isSome = true := by kernel_rfl
theorem guard72 : Try.prog.eqGuardType Try.prog.depth 72 = false := by kernel_rfl
theorem zero72 : zeroA Try.prog 72 = some [.nilFunc] := by kernel_rfl
theorem agg74 : aggT Try.prog 74 = some false := by kernel_rfl
theorem cells74 : Try.prog.cellsOf 74 = 1 := by kernel_rfl
theorem info74 : (Try.prog.info? 74).isSome = true := by kernel_rfl
theorem guard74 : Try.prog.eqGuardType Try.prog.depth 74 = false := by kernel_rfl
theorem zero74 : zeroA Try.prog 74 = some [.int .i64 0] := by kernel_rfl
theorem agg89 : aggT Try.prog 89 = some true := by kernel_rfl
theorem cells89 : Try.prog.cellsOf 89 = 7 := by kernel_rfl
theorem info89 : (Try.prog.info? 89).isSome = true := by kernel_rfl
theorem guard89 : Try.prog.eqGuardType Try.prog.depth 89 = false := by kernel_rfl
theorem zero89 : zeroA Try.prog 89 = some [.nilFunc, .nilFunc, .nilFunc, .nilFunc, .nilFunc, .nilFunc, .nilFunc] := by kernel_rfl
theorem build89 (pcs : List (Nat × List AV)) : buildA Try.prog 89 pcs = (fillA (fun i => some (i * 1, 1)) [.nilFunc, .nilFunc, .nilFunc, .nilFunc, .nilFunc, .nilFunc, .nilFunc] pcs).map .agg := by
  have h : (Try.prog.info? 72).map (·.size) = some 1 := by kernel_rfl
  obtain ⟨i, hi, hs⟩ := Option.map_eq_some_iff.1 h
  simp only [buildA, zero89, Try.underlying89, hi, hs]
theorem agg93 : aggT Try.prog 93 = some true := by kernel_rfl
theorem cells93 : Try.prog.cellsOf 93 = 10 := by kernel_rfl
theorem info93 : (Try.prog.info? 93).isSome = true := by kernel_rfl
theorem guard93 : Try.prog.eqGuardType Try.prog.depth 93 = false := by kernel_rfl
theorem zero93 : zeroA Try.prog 93 = some [.int .i64 0, .int .i64 0, .int .i64 0, .int .i64 0, .str ByteArray.empty, .int .i64 0, .int .i64 0, .int .i64 0, .int .i64 0, .str ByteArray.empty] := by kernel_rfl
theorem build93 (pcs : List (Nat × List AV)) : buildA Try.prog 93 pcs = (fillA (fun i => some (i * 5, 5)) [.int .i64 0, .int .i64 0, .int .i64 0, .int .i64 0, .str ByteArray.empty, .int .i64 0, .int .i64 0, .int .i64 0, .int .i64 0, .str ByteArray.empty] pcs).map .agg := by
  have h : (Try.prog.info? 26).map (·.size) = some 5 := by kernel_rfl
  obtain ⟨i, hi, hs⟩ := Option.map_eq_some_iff.1 h
  simp only [buildA, zero93, Try.underlying93, hi, hs]
theorem agg96 : aggT Try.prog 96 = some false := by kernel_rfl
theorem cells96 : Try.prog.cellsOf 96 = 1 := by kernel_rfl
theorem info96 : (Try.prog.info? 96).isSome = true := by kernel_rfl
theorem guard96 : Try.prog.eqGuardType Try.prog.depth 96 = false := by kernel_rfl
theorem zero96 : zeroA Try.prog 96 = some [.int .u64 0] := by kernel_rfl
theorem agg97 : aggT Try.prog 97 = some false := by kernel_rfl
theorem cells97 : Try.prog.cellsOf 97 = 1 := by kernel_rfl
theorem info97 : (Try.prog.info? 97).isSome = true := by kernel_rfl
theorem guard97 : Try.prog.eqGuardType Try.prog.depth 97 = false := by kernel_rfl
theorem zero97 : zeroA Try.prog 97 = some [.slice .nil []] := by kernel_rfl
theorem app97 : appT Try.prog 97 = some (26, 5) := by kernel_rfl
theorem agg101 : aggT Try.prog 101 = some false := by kernel_rfl
theorem cells101 : Try.prog.cellsOf 101 = 1 := by kernel_rfl
theorem info101 : (Try.prog.info? 101).isSome = true := by kernel_rfl
theorem guard101 : Try.prog.eqGuardType Try.prog.depth 101 = false := by kernel_rfl
theorem zero101 : zeroA Try.prog 101 = some [.int .i64 0] := by kernel_rfl
theorem agg110 : aggT Try.prog 110 = some false := by kernel_rfl
theorem cells110 : Try.prog.cellsOf 110 = 1 := by kernel_rfl
theorem info110 : (Try.prog.info? 110).isSome = true := by kernel_rfl
theorem guard110 : Try.prog.eqGuardType Try.prog.depth 110 = false := by kernel_rfl
theorem zero110 : zeroA Try.prog 110 = some [.int .u32 0] := by kernel_rfl
theorem agg112 : aggT Try.prog 112 = some false := by kernel_rfl
theorem cells112 : Try.prog.cellsOf 112 = 1 := by kernel_rfl
theorem info112 : (Try.prog.info? 112).isSome = true := by kernel_rfl
theorem guard112 : Try.prog.eqGuardType Try.prog.depth 112 = false := by kernel_rfl
theorem zero112 : zeroA Try.prog 112 = some [.int .u64 0] := by kernel_rfl
theorem agg113 : aggT Try.prog 113 = some false := by kernel_rfl
theorem cells113 : Try.prog.cellsOf 113 = 1 := by kernel_rfl
theorem info113 : (Try.prog.info? 113).isSome = true := by kernel_rfl
theorem guard113 : Try.prog.eqGuardType Try.prog.depth 113 = false := by kernel_rfl
theorem zero113 : zeroA Try.prog 113 = some [.int .u64 0] := by kernel_rfl
theorem agg118 : aggT Try.prog 118 = some false := by kernel_rfl
theorem cells118 : Try.prog.cellsOf 118 = 1 := by kernel_rfl
theorem info118 : (Try.prog.info? 118).isSome = true := by kernel_rfl
theorem guard118 : Try.prog.eqGuardType Try.prog.depth 118 = false := by kernel_rfl
theorem zero118 : zeroA Try.prog 118 = some [.undef] := by kernel_rfl

/-- The notes on each function. -/
def an3 : Ann := { n := 86, np := 3, roots := [(7, 13), (14, 13), (16, 13), (18, 13), (22, 13)], takes := [8, 9], owns := [] }
def an4 : Ann := { n := 77, np := 4, roots := [(9, 18), (19, 18), (21, 18), (23, 18), (27, 18), (30, 18), (34, 18)], takes := [10, 11, 13, 14], owns := [] }
def an5 : Ann := { n := 76, np := 1, roots := [(3, 12), (13, 12), (15, 12), (18, 12), (21, 12)], takes := [4, 7, 10], owns := [] }
def an6 : Ann := { n := 71, np := 1, roots := [(3, 13), (14, 13), (17, 13), (20, 13), (22, 6)], takes := [], owns := [] }
def an7 : Ann := { n := 69, np := 2, roots := [(5, 14), (10, 69), (15, 14), (17, 14), (35, 14), (38, 14), (40, 69), (51, 69), (57, 69), (65, 69)], takes := [6, 8, 9], owns := [], muts := [40] }
def an8 : Ann := { n := 69, np := 4, roots := [(9, 17), (18, 17), (20, 17), (22, 17), (26, 17), (29, 17)], takes := [10, 11, 13, 14], owns := [] }
def an9 : Ann := { n := 49, np := 2, roots := [(5, 10), (11, 10), (13, 10), (16, 10)], takes := [6], owns := [] }
def an10 : Ann := { n := 14, np := 2, roots := [(4, 13)], takes := [], owns := [] }
def an11 : Ann := { n := 22, np := 2, roots := [(7, 0), (16, 0)], takes := [4, 5, 15, 21], owns := [] }
def an12 : Ann := { n := 25, np := 4, roots := [(10, 0), (20, 0)], takes := [], owns := [] }
def an13 : Ann := { n := 111, np := 2, roots := [(9, 3), (14, 0), (18, 3), (20, 111), (21, 5), (22, 0), (23, 5), (24, 111), (27, 5), (28, 111), (30, 0), (31, 5), (32, 111), (34, 111), (37, 111), (39, 0), (45, 3), (47, 3), (50, 3), (57, 3), (60, 0), (62, 3), (65, 0), (67, 3), (70, 0), (72, 3), (73, 3), (76, 0), (78, 3), (79, 3), (82, 0), (84, 3), (85, 3), (88, 0), (90, 3), (91, 3), (94, 3), (100, 3)], takes := [], owns := [], muts := [20], held := [(5, 111)] }
def an14 : Ann := { n := 39, np := 0, roots := [], takes := [3], owns := [] }
def an15 : Ann := { n := 25, np := 3, roots := [], takes := [], owns := [] }
def an16 : Ann := { n := 27, np := 3, roots := [], takes := [], owns := [] }
def an17 : Ann := { n := 59, np := 4, roots := [(20, 0), (34, 0), (50, 0)], takes := [8, 9, 19, 37, 53, 58], owns := [], exs := [24, 40, 56] }
def an18 : Ann := { n := 22, np := 2, roots := [(15, 0)], takes := [4, 5, 14, 21], owns := [] }
def an19 : Ann := { n := 102, np := 3, roots := [(14, 3), (20, 3), (25, 3), (39, 7), (41, 8), (45, 3), (59, 3), (74, 3), (88, 3), (93, 3)], takes := [], owns := [] }
def an20 : Ann := { n := 97, np := 3, roots := [(13, 3), (20, 3), (28, 3), (40, 3), (48, 3), (54, 3), (66, 3), (72, 3), (83, 3), (88, 3)], takes := [], owns := [] }
def an21 : Ann := { n := 40, np := 2, roots := [(5, 0), (6, 0), (7, 0), (9, 0), (10, 0), (11, 0), (19, 0), (20, 0), (21, 0), (24, 0), (25, 0), (26, 0), (27, 0), (28, 0), (30, 0), (31, 0), (32, 0)], takes := [], owns := [] }
def an22 : Ann := { n := 21, np := 2, roots := [(9, 0), (15, 0), (18, 0)], takes := [], owns := [] }
def an23 : Ann := { n := 14, np := 1, roots := [(4, 0), (11, 0)], takes := [], owns := [] }
def an24 : Ann := { n := 51, np := 3, roots := [(17, 4), (19, 5)], takes := [], owns := [] }
def an25 : Ann := { n := 10, np := 1, roots := [(2, 10), (3, 10), (5, 10), (6, 10), (8, 10), (9, 10)], takes := [], owns := [], muts := [5, 9] }
def an26 : Ann := { n := 26, np := 2, roots := [], takes := [], owns := [] }
def an27 : Ann := { n := 5, np := 1, roots := [], takes := [2], owns := [] }
def an28 : Ann := { n := 37, np := 2, roots := [(9, 2), (13, 2), (17, 5), (18, 5), (19, 5), (20, 2), (27, 5), (34, 5)], takes := [28], owns := [] }
def an29 : Ann := { n := 60, np := 2, roots := [(6, 2), (8, 3), (12, 2), (14, 3), (19, 2), (21, 3), (26, 2), (28, 3), (33, 2), (36, 3), (41, 2), (47, 2), (52, 3)], takes := [], owns := [] }
def an30 : Ann := { n := 40, np := 2, roots := [(7, 2), (9, 2), (11, 2), (15, 2), (20, 2), (26, 5), (28, 2), (37, 5)], takes := [27], owns := [] }
def an31 : Ann := { n := 38, np := 2, roots := [(5, 2), (7, 3), (11, 2), (13, 3), (18, 2), (20, 3), (25, 2), (27, 3), (32, 2), (34, 3)], takes := [], owns := [] }
def an32 : Ann := { n := 107, np := 4, roots := [(14, 0), (20, 0), (23, 0), (38, 0), (44, 0), (47, 0), (52, 0), (57, 0), (59, 0), (64, 11), (65, 0), (67, 11), (69, 11), (71, 11), (72, 11), (77, 0), (89, 0), (95, 12), (97, 0), (105, 12)], takes := [96], owns := [] }
def an33 : Ann := { n := 11, np := 2, roots := [(5, 0)], takes := [], owns := [] }
def an34 : Ann := { n := 18, np := 1, roots := [(3, 0), (13, 0), (16, 0)], takes := [], owns := [] }
def an35 : Ann := { n := 22, np := 1, roots := [], takes := [], owns := [] }
def an36 : Ann := { n := 36, np := 3, roots := [(9, 2), (10, 2), (13, 2), (14, 2), (15, 2), (22, 3), (32, 2)], takes := [], owns := [] }
def an37 : Ann := { n := 87, np := 2, roots := [(9, 3), (14, 3), (18, 3), (21, 3), (26, 3), (31, 3), (47, 3), (53, 3), (60, 3), (64, 3), (70, 3), (75, 3)], takes := [], owns := [] }
def an38 : Ann := { n := 15, np := 1, roots := [], takes := [], owns := [] }
def an39 : Ann := { n := 27, np := 2, roots := [(9, 2), (19, 2)], takes := [], owns := [] }
def an40 : Ann := { n := 23, np := 2, roots := [(8, 2), (14, 2)], takes := [], owns := [] }
def an41 : Ann := { n := 84, np := 3, roots := [(9, 5), (17, 5), (26, 5), (29, 5), (34, 5), (39, 5), (51, 5), (61, 5), (68, 5), (76, 5)], takes := [], owns := [] }
def an42 : Ann := { n := 37, np := 3, roots := [(9, 3), (14, 3), (21, 3), (25, 3), (33, 3)], takes := [7], owns := [] }
def an43 : Ann := { n := 15, np := 1, roots := [(6, 1), (11, 1)], takes := [], owns := [] }
def an44 : Ann := { n := 14, np := 1, roots := [(12, 3)], takes := [], owns := [] }
def an45 : Ann := { n := 31, np := 2, roots := [(10, 2), (12, 3), (18, 2), (20, 3), (26, 2), (28, 3)], takes := [], owns := [] }
def an46 : Ann := { n := 57, np := 3, roots := [(9, 3), (13, 3), (18, 3), (25, 3), (30, 3), (34, 3), (39, 3), (46, 3), (51, 3), (54, 3)], takes := [], owns := [] }
def an47 : Ann := { n := 15, np := 1, roots := [(4, 0)], takes := [], owns := [] }
def an48 : Ann := { n := 37, np := 1, roots := [(6, 0)], takes := [], owns := [] }
def an49 : Ann := { n := 10, np := 1, roots := [(6, 1)], takes := [], owns := [] }
def an50 : Ann := { n := 41, np := 2, roots := [(6, 2), (8, 3), (12, 2), (14, 3), (18, 2), (20, 3), (24, 2), (26, 3), (30, 2), (32, 3), (36, 2), (38, 3)], takes := [], owns := [] }
def an51 : Ann := { n := 46, np := 2, roots := [(9, 3), (12, 3), (14, 3), (20, 6), (24, 6), (29, 6), (34, 3)], takes := [0, 4, 28, 41, 45], owns := [], exs := [32, 43], exin := [(0, 3)] }
def an52 : Ann := { n := 11, np := 1, roots := [], takes := [], owns := [], inpl := [0] }
def an53 : Ann := { n := 61, np := 1, roots := [], takes := [2, 4, 9, 60], owns := [], inpl := [0] }
def an54 : Ann := { n := 49, np := 2, roots := [(8, 2), (11, 2), (13, 2), (21, 6), (25, 6), (30, 6), (34, 2), (40, 2)], takes := [1, 4, 48], owns := [] }
def an55 : Ann := { n := 27, np := 2, roots := [(5, 2), (9, 2), (14, 2), (22, 2)], takes := [], owns := [] }
def an56 : Ann := { n := 27, np := 2, roots := [(5, 2), (9, 2), (14, 2), (21, 2)], takes := [], owns := [] }
def an57 : Ann := { n := 32, np := 3, roots := [], takes := [], owns := [] }
def an58 : Ann := { n := 64, np := 4, roots := [(47, 0), (60, 0)], takes := [9, 25, 41], owns := [] }
def an59 : Ann := { n := 51, np := 2, roots := [(6, 2), (8, 3), (12, 3), (16, 3), (21, 3), (22, 3), (26, 2), (30, 3), (34, 3), (41, 3), (47, 3)], takes := [5], owns := [] }
def an60 : Ann := { n := 13, np := 1, roots := [], takes := [], owns := [] }
def an61 : Ann := { n := 18, np := 1, roots := [(3, 1), (7, 1), (13, 1)], takes := [], owns := [] }
def an62 : Ann := { n := 51, np := 3, roots := [(9, 5), (13, 5), (17, 5), (22, 5), (23, 5), (30, 5), (34, 5), (41, 5), (47, 5)], takes := [7], owns := [] }
def an63 : Ann := { n := 47, np := 1, roots := [(3, 1), (8, 1), (12, 1), (18, 1), (22, 1), (27, 1), (33, 1), (38, 1), (42, 1)], takes := [], owns := [] }
def an64 : Ann := { n := 5, np := 1, roots := [], takes := [], owns := [] }
def an65 : Ann := { n := 5, np := 1, roots := [], takes := [], owns := [] }
def an66 : Ann := { n := 5, np := 1, roots := [], takes := [], owns := [] }
def an67 : Ann := { n := 5, np := 1, roots := [], takes := [], owns := [] }
def an68 : Ann := { n := 5, np := 1, roots := [], takes := [], owns := [] }
def an69 : Ann := { n := 5, np := 1, roots := [], takes := [], owns := [] }
def an70 : Ann := { n := 20, np := 2, roots := [], takes := [], owns := [] }
def an71 : Ann := { n := 20, np := 2, roots := [], takes := [], owns := [] }
def an72 : Ann := { n := 8, np := 2, roots := [], takes := [], owns := [] }
def an73 : Ann := { n := 47, np := 1, roots := [(3, 1), (8, 1), (12, 1), (18, 1), (22, 1), (27, 1), (33, 1), (38, 1), (42, 1)], takes := [], owns := [] }
def an74 : Ann := { n := 134, np := 4, roots := [], takes := [], owns := [] }
def an75 : Ann := { n := 8, np := 1, roots := [], takes := [], owns := [] }
def an76 : Ann := { n := 44, np := 2, roots := [], takes := [4, 32], owns := [] }
def an77 : Ann := { n := 6, np := 1, roots := [], takes := [], owns := [] }
def an78 : Ann := { n := 6, np := 1, roots := [], takes := [], owns := [] }
def an79 : Ann := { n := 8, np := 2, roots := [], takes := [], owns := [] }
def an80 : Ann := { n := 49, np := 3, roots := [], takes := [], owns := [] }
def an81 : Ann := { n := 56, np := 3, roots := [], takes := [], owns := [] }
def an82 : Ann := { n := 65, np := 3, roots := [], takes := [], owns := [] }
def an83 : Ann := { n := 57, np := 3, roots := [], takes := [], owns := [] }
def an84 : Ann := { n := 32, np := 3, roots := [], takes := [], owns := [] }
def an85 : Ann := { n := 133, np := 3, roots := [], takes := [], owns := [] }
def an86 : Ann := { n := 17, np := 2, roots := [], takes := [], owns := [] }
def an87 : Ann := { n := 84, np := 4, roots := [], takes := [], owns := [] }
def an88 : Ann := { n := 168, np := 4, roots := [], takes := [], owns := [] }
def an89 : Ann := { n := 19, np := 1, roots := [], takes := [], owns := [] }
def an90 : Ann := { n := 25, np := 1, roots := [], takes := [], owns := [] }
def an91 : Ann := { n := 2, np := 2, roots := [], takes := [], owns := [] }
def an92 : Ann := { n := 76, np := 4, roots := [], takes := [], owns := [] }
def an93 : Ann := { n := 7, np := 1, roots := [], takes := [], owns := [] }
def an94 : Ann := { n := 33, np := 1, roots := [(3, 0), (4, 0), (6, 0), (7, 0), (11, 0), (12, 0), (13, 0), (15, 0), (16, 0), (20, 0), (21, 0), (22, 0), (24, 0), (25, 0), (29, 0), (30, 0), (31, 0)], takes := [], owns := [] }
def an95 : Ann := { n := 15, np := 3, roots := [(13, 2)], takes := [], owns := [] }
def an96 : Ann := { n := 36, np := 5, roots := [(15, 4), (23, 4), (31, 4)], takes := [], owns := [] }
def an97 : Ann := { n := 28, np := 4, roots := [(19, 3), (20, 3), (23, 3)], takes := [], owns := [] }
def ann : FuncId → Ann
  | 3 => an3
  | 4 => an4
  | 5 => an5
  | 6 => an6
  | 7 => an7
  | 8 => an8
  | 9 => an9
  | 10 => an10
  | 11 => an11
  | 12 => an12
  | 13 => an13
  | 14 => an14
  | 15 => an15
  | 16 => an16
  | 17 => an17
  | 18 => an18
  | 19 => an19
  | 20 => an20
  | 21 => an21
  | 22 => an22
  | 23 => an23
  | 24 => an24
  | 25 => an25
  | 26 => an26
  | 27 => an27
  | 28 => an28
  | 29 => an29
  | 30 => an30
  | 31 => an31
  | 32 => an32
  | 33 => an33
  | 34 => an34
  | 35 => an35
  | 36 => an36
  | 37 => an37
  | 38 => an38
  | 39 => an39
  | 40 => an40
  | 41 => an41
  | 42 => an42
  | 43 => an43
  | 44 => an44
  | 45 => an45
  | 46 => an46
  | 47 => an47
  | 48 => an48
  | 49 => an49
  | 50 => an50
  | 51 => an51
  | 52 => an52
  | 53 => an53
  | 54 => an54
  | 55 => an55
  | 56 => an56
  | 57 => an57
  | 58 => an58
  | 59 => an59
  | 60 => an60
  | 61 => an61
  | 62 => an62
  | 63 => an63
  | 64 => an64
  | 65 => an65
  | 66 => an66
  | 67 => an67
  | 68 => an68
  | 69 => an69
  | 70 => an70
  | 71 => an71
  | 72 => an72
  | 73 => an73
  | 74 => an74
  | 75 => an75
  | 76 => an76
  | 77 => an77
  | 78 => an78
  | 79 => an79
  | 80 => an80
  | 81 => an81
  | 82 => an82
  | 83 => an83
  | 84 => an84
  | 85 => an85
  | 86 => an86
  | 87 => an87
  | 88 => an88
  | 89 => an89
  | 90 => an90
  | 91 => an91
  | 92 => an92
  | 93 => an93
  | 94 => an94
  | 95 => an95
  | 96 => an96
  | 97 => an97
  | _ => { n := 0, np := 0 }
theorem ann3 : ann 3 = an3 := rfl
theorem ann4 : ann 4 = an4 := rfl
theorem ann5 : ann 5 = an5 := rfl
theorem ann6 : ann 6 = an6 := rfl
theorem ann7 : ann 7 = an7 := rfl
theorem ann8 : ann 8 = an8 := rfl
theorem ann9 : ann 9 = an9 := rfl
theorem ann10 : ann 10 = an10 := rfl
theorem ann11 : ann 11 = an11 := rfl
theorem ann12 : ann 12 = an12 := rfl
theorem ann13 : ann 13 = an13 := rfl
theorem ann14 : ann 14 = an14 := rfl
theorem ann15 : ann 15 = an15 := rfl
theorem ann16 : ann 16 = an16 := rfl
theorem ann17 : ann 17 = an17 := rfl
theorem ann18 : ann 18 = an18 := rfl
theorem ann19 : ann 19 = an19 := rfl
theorem ann20 : ann 20 = an20 := rfl
theorem ann21 : ann 21 = an21 := rfl
theorem ann22 : ann 22 = an22 := rfl
theorem ann23 : ann 23 = an23 := rfl
theorem ann24 : ann 24 = an24 := rfl
theorem ann25 : ann 25 = an25 := rfl
theorem ann26 : ann 26 = an26 := rfl
theorem ann27 : ann 27 = an27 := rfl
theorem ann28 : ann 28 = an28 := rfl
theorem ann29 : ann 29 = an29 := rfl
theorem ann30 : ann 30 = an30 := rfl
theorem ann31 : ann 31 = an31 := rfl
theorem ann32 : ann 32 = an32 := rfl
theorem ann33 : ann 33 = an33 := rfl
theorem ann34 : ann 34 = an34 := rfl
theorem ann35 : ann 35 = an35 := rfl
theorem ann36 : ann 36 = an36 := rfl
theorem ann37 : ann 37 = an37 := rfl
theorem ann38 : ann 38 = an38 := rfl
theorem ann39 : ann 39 = an39 := rfl
theorem ann40 : ann 40 = an40 := rfl
theorem ann41 : ann 41 = an41 := rfl
theorem ann42 : ann 42 = an42 := rfl
theorem ann43 : ann 43 = an43 := rfl
theorem ann44 : ann 44 = an44 := rfl
theorem ann45 : ann 45 = an45 := rfl
theorem ann46 : ann 46 = an46 := rfl
theorem ann47 : ann 47 = an47 := rfl
theorem ann48 : ann 48 = an48 := rfl
theorem ann49 : ann 49 = an49 := rfl
theorem ann50 : ann 50 = an50 := rfl
theorem ann51 : ann 51 = an51 := rfl
theorem ann52 : ann 52 = an52 := rfl
theorem ann53 : ann 53 = an53 := rfl
theorem ann54 : ann 54 = an54 := rfl
theorem ann55 : ann 55 = an55 := rfl
theorem ann56 : ann 56 = an56 := rfl
theorem ann57 : ann 57 = an57 := rfl
theorem ann58 : ann 58 = an58 := rfl
theorem ann59 : ann 59 = an59 := rfl
theorem ann60 : ann 60 = an60 := rfl
theorem ann61 : ann 61 = an61 := rfl
theorem ann62 : ann 62 = an62 := rfl
theorem ann63 : ann 63 = an63 := rfl
theorem ann64 : ann 64 = an64 := rfl
theorem ann65 : ann 65 = an65 := rfl
theorem ann66 : ann 66 = an66 := rfl
theorem ann67 : ann 67 = an67 := rfl
theorem ann68 : ann 68 = an68 := rfl
theorem ann69 : ann 69 = an69 := rfl
theorem ann70 : ann 70 = an70 := rfl
theorem ann71 : ann 71 = an71 := rfl
theorem ann72 : ann 72 = an72 := rfl
theorem ann73 : ann 73 = an73 := rfl
theorem ann74 : ann 74 = an74 := rfl
theorem ann75 : ann 75 = an75 := rfl
theorem ann76 : ann 76 = an76 := rfl
theorem ann77 : ann 77 = an77 := rfl
theorem ann78 : ann 78 = an78 := rfl
theorem ann79 : ann 79 = an79 := rfl
theorem ann80 : ann 80 = an80 := rfl
theorem ann81 : ann 81 = an81 := rfl
theorem ann82 : ann 82 = an82 := rfl
theorem ann83 : ann 83 = an83 := rfl
theorem ann84 : ann 84 = an84 := rfl
theorem ann85 : ann 85 = an85 := rfl
theorem ann86 : ann 86 = an86 := rfl
theorem ann87 : ann 87 = an87 := rfl
theorem ann88 : ann 88 = an88 := rfl
theorem ann89 : ann 89 = an89 := rfl
theorem ann90 : ann 90 = an90 := rfl
theorem ann91 : ann 91 = an91 := rfl
theorem ann92 : ann 92 = an92 := rfl
theorem ann93 : ann 93 = an93 := rfl
theorem ann94 : ann 94 = an94 := rfl
theorem ann95 : ann 95 = an95 := rfl
theorem ann96 : ann 96 = an96 := rfl
theorem ann97 : ann 97 = an97 := rfl

theorem mix : Try.prog.follows .mixedOrders = true := by kernel_rfl
theorem body3 : ∃ fn, Try.prog.funcs[3]? = some fn ∧ fn.body.isSome = true ∧ fn.name ≠ "runtime.NumGoroutine" := ⟨Try.f3, Try.func3, rfl, by decide +kernel⟩
theorem body4 : ∃ fn, Try.prog.funcs[4]? = some fn ∧ fn.body.isSome = true ∧ fn.name ≠ "runtime.NumGoroutine" := ⟨Try.f4, Try.func4, rfl, by decide +kernel⟩
theorem body5 : ∃ fn, Try.prog.funcs[5]? = some fn ∧ fn.body.isSome = true ∧ fn.name ≠ "runtime.NumGoroutine" := ⟨Try.f5, Try.func5, rfl, by decide +kernel⟩
theorem body6 : ∃ fn, Try.prog.funcs[6]? = some fn ∧ fn.body.isSome = true ∧ fn.name ≠ "runtime.NumGoroutine" := ⟨Try.f6, Try.func6, rfl, by decide +kernel⟩
theorem body7 : ∃ fn, Try.prog.funcs[7]? = some fn ∧ fn.body.isSome = true ∧ fn.name ≠ "runtime.NumGoroutine" := ⟨Try.f7, Try.func7, rfl, by decide +kernel⟩
theorem body8 : ∃ fn, Try.prog.funcs[8]? = some fn ∧ fn.body.isSome = true ∧ fn.name ≠ "runtime.NumGoroutine" := ⟨Try.f8, Try.func8, rfl, by decide +kernel⟩
theorem body9 : ∃ fn, Try.prog.funcs[9]? = some fn ∧ fn.body.isSome = true ∧ fn.name ≠ "runtime.NumGoroutine" := ⟨Try.f9, Try.func9, rfl, by decide +kernel⟩
theorem body10 : ∃ fn, Try.prog.funcs[10]? = some fn ∧ fn.body.isSome = true ∧ fn.name ≠ "runtime.NumGoroutine" := ⟨Try.f10, Try.func10, rfl, by decide +kernel⟩
theorem body11 : ∃ fn, Try.prog.funcs[11]? = some fn ∧ fn.body.isSome = true ∧ fn.name ≠ "runtime.NumGoroutine" := ⟨Try.f11, Try.func11, rfl, by decide +kernel⟩
theorem body12 : ∃ fn, Try.prog.funcs[12]? = some fn ∧ fn.body.isSome = true ∧ fn.name ≠ "runtime.NumGoroutine" := ⟨Try.f12, Try.func12, rfl, by decide +kernel⟩
theorem body13 : ∃ fn, Try.prog.funcs[13]? = some fn ∧ fn.body.isSome = true ∧ fn.name ≠ "runtime.NumGoroutine" := ⟨Try.f13, Try.func13, rfl, by decide +kernel⟩
theorem body14 : ∃ fn, Try.prog.funcs[14]? = some fn ∧ fn.body.isSome = true ∧ fn.name ≠ "runtime.NumGoroutine" := ⟨Try.f14, Try.func14, rfl, by decide +kernel⟩
theorem body15 : ∃ fn, Try.prog.funcs[15]? = some fn ∧ fn.body.isSome = true ∧ fn.name ≠ "runtime.NumGoroutine" := ⟨Try.f15, Try.func15, rfl, by decide +kernel⟩
theorem body16 : ∃ fn, Try.prog.funcs[16]? = some fn ∧ fn.body.isSome = true ∧ fn.name ≠ "runtime.NumGoroutine" := ⟨Try.f16, Try.func16, rfl, by decide +kernel⟩
theorem body17 : ∃ fn, Try.prog.funcs[17]? = some fn ∧ fn.body.isSome = true ∧ fn.name ≠ "runtime.NumGoroutine" := ⟨Try.f17, Try.func17, rfl, by decide +kernel⟩
theorem body18 : ∃ fn, Try.prog.funcs[18]? = some fn ∧ fn.body.isSome = true ∧ fn.name ≠ "runtime.NumGoroutine" := ⟨Try.f18, Try.func18, rfl, by decide +kernel⟩
theorem body19 : ∃ fn, Try.prog.funcs[19]? = some fn ∧ fn.body.isSome = true ∧ fn.name ≠ "runtime.NumGoroutine" := ⟨Try.f19, Try.func19, rfl, by decide +kernel⟩
theorem body20 : ∃ fn, Try.prog.funcs[20]? = some fn ∧ fn.body.isSome = true ∧ fn.name ≠ "runtime.NumGoroutine" := ⟨Try.f20, Try.func20, rfl, by decide +kernel⟩
theorem body21 : ∃ fn, Try.prog.funcs[21]? = some fn ∧ fn.body.isSome = true ∧ fn.name ≠ "runtime.NumGoroutine" := ⟨Try.f21, Try.func21, rfl, by decide +kernel⟩
theorem body22 : ∃ fn, Try.prog.funcs[22]? = some fn ∧ fn.body.isSome = true ∧ fn.name ≠ "runtime.NumGoroutine" := ⟨Try.f22, Try.func22, rfl, by decide +kernel⟩
theorem body23 : ∃ fn, Try.prog.funcs[23]? = some fn ∧ fn.body.isSome = true ∧ fn.name ≠ "runtime.NumGoroutine" := ⟨Try.f23, Try.func23, rfl, by decide +kernel⟩
theorem body24 : ∃ fn, Try.prog.funcs[24]? = some fn ∧ fn.body.isSome = true ∧ fn.name ≠ "runtime.NumGoroutine" := ⟨Try.f24, Try.func24, rfl, by decide +kernel⟩
theorem body25 : ∃ fn, Try.prog.funcs[25]? = some fn ∧ fn.body.isSome = true ∧ fn.name ≠ "runtime.NumGoroutine" := ⟨Try.f25, Try.func25, rfl, by decide +kernel⟩
theorem body26 : ∃ fn, Try.prog.funcs[26]? = some fn ∧ fn.body.isSome = true ∧ fn.name ≠ "runtime.NumGoroutine" := ⟨Try.f26, Try.func26, rfl, by decide +kernel⟩
theorem body27 : ∃ fn, Try.prog.funcs[27]? = some fn ∧ fn.body.isSome = true ∧ fn.name ≠ "runtime.NumGoroutine" := ⟨Try.f27, Try.func27, rfl, by decide +kernel⟩
theorem body28 : ∃ fn, Try.prog.funcs[28]? = some fn ∧ fn.body.isSome = true ∧ fn.name ≠ "runtime.NumGoroutine" := ⟨Try.f28, Try.func28, rfl, by decide +kernel⟩
theorem body29 : ∃ fn, Try.prog.funcs[29]? = some fn ∧ fn.body.isSome = true ∧ fn.name ≠ "runtime.NumGoroutine" := ⟨Try.f29, Try.func29, rfl, by decide +kernel⟩
theorem body30 : ∃ fn, Try.prog.funcs[30]? = some fn ∧ fn.body.isSome = true ∧ fn.name ≠ "runtime.NumGoroutine" := ⟨Try.f30, Try.func30, rfl, by decide +kernel⟩
theorem body31 : ∃ fn, Try.prog.funcs[31]? = some fn ∧ fn.body.isSome = true ∧ fn.name ≠ "runtime.NumGoroutine" := ⟨Try.f31, Try.func31, rfl, by decide +kernel⟩
theorem body32 : ∃ fn, Try.prog.funcs[32]? = some fn ∧ fn.body.isSome = true ∧ fn.name ≠ "runtime.NumGoroutine" := ⟨Try.f32, Try.func32, rfl, by decide +kernel⟩
theorem body33 : ∃ fn, Try.prog.funcs[33]? = some fn ∧ fn.body.isSome = true ∧ fn.name ≠ "runtime.NumGoroutine" := ⟨Try.f33, Try.func33, rfl, by decide +kernel⟩
theorem body34 : ∃ fn, Try.prog.funcs[34]? = some fn ∧ fn.body.isSome = true ∧ fn.name ≠ "runtime.NumGoroutine" := ⟨Try.f34, Try.func34, rfl, by decide +kernel⟩
theorem body35 : ∃ fn, Try.prog.funcs[35]? = some fn ∧ fn.body.isSome = true ∧ fn.name ≠ "runtime.NumGoroutine" := ⟨Try.f35, Try.func35, rfl, by decide +kernel⟩
theorem body36 : ∃ fn, Try.prog.funcs[36]? = some fn ∧ fn.body.isSome = true ∧ fn.name ≠ "runtime.NumGoroutine" := ⟨Try.f36, Try.func36, rfl, by decide +kernel⟩
theorem body37 : ∃ fn, Try.prog.funcs[37]? = some fn ∧ fn.body.isSome = true ∧ fn.name ≠ "runtime.NumGoroutine" := ⟨Try.f37, Try.func37, rfl, by decide +kernel⟩
theorem body38 : ∃ fn, Try.prog.funcs[38]? = some fn ∧ fn.body.isSome = true ∧ fn.name ≠ "runtime.NumGoroutine" := ⟨Try.f38, Try.func38, rfl, by decide +kernel⟩
theorem body39 : ∃ fn, Try.prog.funcs[39]? = some fn ∧ fn.body.isSome = true ∧ fn.name ≠ "runtime.NumGoroutine" := ⟨Try.f39, Try.func39, rfl, by decide +kernel⟩
theorem body40 : ∃ fn, Try.prog.funcs[40]? = some fn ∧ fn.body.isSome = true ∧ fn.name ≠ "runtime.NumGoroutine" := ⟨Try.f40, Try.func40, rfl, by decide +kernel⟩
theorem body41 : ∃ fn, Try.prog.funcs[41]? = some fn ∧ fn.body.isSome = true ∧ fn.name ≠ "runtime.NumGoroutine" := ⟨Try.f41, Try.func41, rfl, by decide +kernel⟩
theorem body42 : ∃ fn, Try.prog.funcs[42]? = some fn ∧ fn.body.isSome = true ∧ fn.name ≠ "runtime.NumGoroutine" := ⟨Try.f42, Try.func42, rfl, by decide +kernel⟩
theorem body43 : ∃ fn, Try.prog.funcs[43]? = some fn ∧ fn.body.isSome = true ∧ fn.name ≠ "runtime.NumGoroutine" := ⟨Try.f43, Try.func43, rfl, by decide +kernel⟩
theorem body44 : ∃ fn, Try.prog.funcs[44]? = some fn ∧ fn.body.isSome = true ∧ fn.name ≠ "runtime.NumGoroutine" := ⟨Try.f44, Try.func44, rfl, by decide +kernel⟩
theorem body45 : ∃ fn, Try.prog.funcs[45]? = some fn ∧ fn.body.isSome = true ∧ fn.name ≠ "runtime.NumGoroutine" := ⟨Try.f45, Try.func45, rfl, by decide +kernel⟩
theorem body46 : ∃ fn, Try.prog.funcs[46]? = some fn ∧ fn.body.isSome = true ∧ fn.name ≠ "runtime.NumGoroutine" := ⟨Try.f46, Try.func46, rfl, by decide +kernel⟩
theorem body47 : ∃ fn, Try.prog.funcs[47]? = some fn ∧ fn.body.isSome = true ∧ fn.name ≠ "runtime.NumGoroutine" := ⟨Try.f47, Try.func47, rfl, by decide +kernel⟩
theorem body48 : ∃ fn, Try.prog.funcs[48]? = some fn ∧ fn.body.isSome = true ∧ fn.name ≠ "runtime.NumGoroutine" := ⟨Try.f48, Try.func48, rfl, by decide +kernel⟩
theorem body49 : ∃ fn, Try.prog.funcs[49]? = some fn ∧ fn.body.isSome = true ∧ fn.name ≠ "runtime.NumGoroutine" := ⟨Try.f49, Try.func49, rfl, by decide +kernel⟩
theorem body50 : ∃ fn, Try.prog.funcs[50]? = some fn ∧ fn.body.isSome = true ∧ fn.name ≠ "runtime.NumGoroutine" := ⟨Try.f50, Try.func50, rfl, by decide +kernel⟩
theorem body51 : ∃ fn, Try.prog.funcs[51]? = some fn ∧ fn.body.isSome = true ∧ fn.name ≠ "runtime.NumGoroutine" := ⟨Try.f51, Try.func51, rfl, by decide +kernel⟩
theorem body52 : ∃ fn, Try.prog.funcs[52]? = some fn ∧ fn.body.isSome = true ∧ fn.name ≠ "runtime.NumGoroutine" := ⟨Try.f52, Try.func52, rfl, by decide +kernel⟩
theorem body53 : ∃ fn, Try.prog.funcs[53]? = some fn ∧ fn.body.isSome = true ∧ fn.name ≠ "runtime.NumGoroutine" := ⟨Try.f53, Try.func53, rfl, by decide +kernel⟩
theorem body54 : ∃ fn, Try.prog.funcs[54]? = some fn ∧ fn.body.isSome = true ∧ fn.name ≠ "runtime.NumGoroutine" := ⟨Try.f54, Try.func54, rfl, by decide +kernel⟩
theorem body55 : ∃ fn, Try.prog.funcs[55]? = some fn ∧ fn.body.isSome = true ∧ fn.name ≠ "runtime.NumGoroutine" := ⟨Try.f55, Try.func55, rfl, by decide +kernel⟩
theorem body56 : ∃ fn, Try.prog.funcs[56]? = some fn ∧ fn.body.isSome = true ∧ fn.name ≠ "runtime.NumGoroutine" := ⟨Try.f56, Try.func56, rfl, by decide +kernel⟩
theorem body57 : ∃ fn, Try.prog.funcs[57]? = some fn ∧ fn.body.isSome = true ∧ fn.name ≠ "runtime.NumGoroutine" := ⟨Try.f57, Try.func57, rfl, by decide +kernel⟩
theorem body58 : ∃ fn, Try.prog.funcs[58]? = some fn ∧ fn.body.isSome = true ∧ fn.name ≠ "runtime.NumGoroutine" := ⟨Try.f58, Try.func58, rfl, by decide +kernel⟩
theorem body59 : ∃ fn, Try.prog.funcs[59]? = some fn ∧ fn.body.isSome = true ∧ fn.name ≠ "runtime.NumGoroutine" := ⟨Try.f59, Try.func59, rfl, by decide +kernel⟩
theorem body60 : ∃ fn, Try.prog.funcs[60]? = some fn ∧ fn.body.isSome = true ∧ fn.name ≠ "runtime.NumGoroutine" := ⟨Try.f60, Try.func60, rfl, by decide +kernel⟩
theorem body61 : ∃ fn, Try.prog.funcs[61]? = some fn ∧ fn.body.isSome = true ∧ fn.name ≠ "runtime.NumGoroutine" := ⟨Try.f61, Try.func61, rfl, by decide +kernel⟩
theorem body62 : ∃ fn, Try.prog.funcs[62]? = some fn ∧ fn.body.isSome = true ∧ fn.name ≠ "runtime.NumGoroutine" := ⟨Try.f62, Try.func62, rfl, by decide +kernel⟩
theorem body63 : ∃ fn, Try.prog.funcs[63]? = some fn ∧ fn.body.isSome = true ∧ fn.name ≠ "runtime.NumGoroutine" := ⟨Try.f63, Try.func63, rfl, by decide +kernel⟩
theorem body64 : ∃ fn, Try.prog.funcs[64]? = some fn ∧ fn.body.isSome = true ∧ fn.name ≠ "runtime.NumGoroutine" := ⟨Try.f64, Try.func64, rfl, by decide +kernel⟩
theorem body65 : ∃ fn, Try.prog.funcs[65]? = some fn ∧ fn.body.isSome = true ∧ fn.name ≠ "runtime.NumGoroutine" := ⟨Try.f65, Try.func65, rfl, by decide +kernel⟩
theorem body66 : ∃ fn, Try.prog.funcs[66]? = some fn ∧ fn.body.isSome = true ∧ fn.name ≠ "runtime.NumGoroutine" := ⟨Try.f66, Try.func66, rfl, by decide +kernel⟩
theorem body67 : ∃ fn, Try.prog.funcs[67]? = some fn ∧ fn.body.isSome = true ∧ fn.name ≠ "runtime.NumGoroutine" := ⟨Try.f67, Try.func67, rfl, by decide +kernel⟩
theorem body68 : ∃ fn, Try.prog.funcs[68]? = some fn ∧ fn.body.isSome = true ∧ fn.name ≠ "runtime.NumGoroutine" := ⟨Try.f68, Try.func68, rfl, by decide +kernel⟩
theorem body69 : ∃ fn, Try.prog.funcs[69]? = some fn ∧ fn.body.isSome = true ∧ fn.name ≠ "runtime.NumGoroutine" := ⟨Try.f69, Try.func69, rfl, by decide +kernel⟩
theorem body70 : ∃ fn, Try.prog.funcs[70]? = some fn ∧ fn.body.isSome = true ∧ fn.name ≠ "runtime.NumGoroutine" := ⟨Try.f70, Try.func70, rfl, by decide +kernel⟩
theorem body71 : ∃ fn, Try.prog.funcs[71]? = some fn ∧ fn.body.isSome = true ∧ fn.name ≠ "runtime.NumGoroutine" := ⟨Try.f71, Try.func71, rfl, by decide +kernel⟩
theorem body72 : ∃ fn, Try.prog.funcs[72]? = some fn ∧ fn.body.isSome = true ∧ fn.name ≠ "runtime.NumGoroutine" := ⟨Try.f72, Try.func72, rfl, by decide +kernel⟩
theorem body73 : ∃ fn, Try.prog.funcs[73]? = some fn ∧ fn.body.isSome = true ∧ fn.name ≠ "runtime.NumGoroutine" := ⟨Try.f73, Try.func73, rfl, by decide +kernel⟩
theorem body74 : ∃ fn, Try.prog.funcs[74]? = some fn ∧ fn.body.isSome = true ∧ fn.name ≠ "runtime.NumGoroutine" := ⟨Try.f74, Try.func74, rfl, by decide +kernel⟩
theorem body75 : ∃ fn, Try.prog.funcs[75]? = some fn ∧ fn.body.isSome = true ∧ fn.name ≠ "runtime.NumGoroutine" := ⟨Try.f75, Try.func75, rfl, by decide +kernel⟩
theorem body76 : ∃ fn, Try.prog.funcs[76]? = some fn ∧ fn.body.isSome = true ∧ fn.name ≠ "runtime.NumGoroutine" := ⟨Try.f76, Try.func76, rfl, by decide +kernel⟩
theorem body77 : ∃ fn, Try.prog.funcs[77]? = some fn ∧ fn.body.isSome = true ∧ fn.name ≠ "runtime.NumGoroutine" := ⟨Try.f77, Try.func77, rfl, by decide +kernel⟩
theorem body78 : ∃ fn, Try.prog.funcs[78]? = some fn ∧ fn.body.isSome = true ∧ fn.name ≠ "runtime.NumGoroutine" := ⟨Try.f78, Try.func78, rfl, by decide +kernel⟩
theorem body79 : ∃ fn, Try.prog.funcs[79]? = some fn ∧ fn.body.isSome = true ∧ fn.name ≠ "runtime.NumGoroutine" := ⟨Try.f79, Try.func79, rfl, by decide +kernel⟩
theorem body80 : ∃ fn, Try.prog.funcs[80]? = some fn ∧ fn.body.isSome = true ∧ fn.name ≠ "runtime.NumGoroutine" := ⟨Try.f80, Try.func80, rfl, by decide +kernel⟩
theorem body81 : ∃ fn, Try.prog.funcs[81]? = some fn ∧ fn.body.isSome = true ∧ fn.name ≠ "runtime.NumGoroutine" := ⟨Try.f81, Try.func81, rfl, by decide +kernel⟩
theorem body82 : ∃ fn, Try.prog.funcs[82]? = some fn ∧ fn.body.isSome = true ∧ fn.name ≠ "runtime.NumGoroutine" := ⟨Try.f82, Try.func82, rfl, by decide +kernel⟩
theorem body83 : ∃ fn, Try.prog.funcs[83]? = some fn ∧ fn.body.isSome = true ∧ fn.name ≠ "runtime.NumGoroutine" := ⟨Try.f83, Try.func83, rfl, by decide +kernel⟩
theorem body84 : ∃ fn, Try.prog.funcs[84]? = some fn ∧ fn.body.isSome = true ∧ fn.name ≠ "runtime.NumGoroutine" := ⟨Try.f84, Try.func84, rfl, by decide +kernel⟩
theorem body85 : ∃ fn, Try.prog.funcs[85]? = some fn ∧ fn.body.isSome = true ∧ fn.name ≠ "runtime.NumGoroutine" := ⟨Try.f85, Try.func85, rfl, by decide +kernel⟩
theorem body86 : ∃ fn, Try.prog.funcs[86]? = some fn ∧ fn.body.isSome = true ∧ fn.name ≠ "runtime.NumGoroutine" := ⟨Try.f86, Try.func86, rfl, by decide +kernel⟩
theorem body87 : ∃ fn, Try.prog.funcs[87]? = some fn ∧ fn.body.isSome = true ∧ fn.name ≠ "runtime.NumGoroutine" := ⟨Try.f87, Try.func87, rfl, by decide +kernel⟩
theorem body88 : ∃ fn, Try.prog.funcs[88]? = some fn ∧ fn.body.isSome = true ∧ fn.name ≠ "runtime.NumGoroutine" := ⟨Try.f88, Try.func88, rfl, by decide +kernel⟩
theorem body89 : ∃ fn, Try.prog.funcs[89]? = some fn ∧ fn.body.isSome = true ∧ fn.name ≠ "runtime.NumGoroutine" := ⟨Try.f89, Try.func89, rfl, by decide +kernel⟩
theorem body90 : ∃ fn, Try.prog.funcs[90]? = some fn ∧ fn.body.isSome = true ∧ fn.name ≠ "runtime.NumGoroutine" := ⟨Try.f90, Try.func90, rfl, by decide +kernel⟩
theorem body92 : ∃ fn, Try.prog.funcs[92]? = some fn ∧ fn.body.isSome = true ∧ fn.name ≠ "runtime.NumGoroutine" := ⟨Try.f92, Try.func92, rfl, by decide +kernel⟩
theorem body93 : ∃ fn, Try.prog.funcs[93]? = some fn ∧ fn.body.isSome = true ∧ fn.name ≠ "runtime.NumGoroutine" := ⟨Try.f93, Try.func93, rfl, by decide +kernel⟩
theorem body94 : ∃ fn, Try.prog.funcs[94]? = some fn ∧ fn.body.isSome = true ∧ fn.name ≠ "runtime.NumGoroutine" := ⟨Try.f94, Try.func94, rfl, by decide +kernel⟩
theorem body95 : ∃ fn, Try.prog.funcs[95]? = some fn ∧ fn.body.isSome = true ∧ fn.name ≠ "runtime.NumGoroutine" := ⟨Try.f95, Try.func95, rfl, by decide +kernel⟩
theorem body96 : ∃ fn, Try.prog.funcs[96]? = some fn ∧ fn.body.isSome = true ∧ fn.name ≠ "runtime.NumGoroutine" := ⟨Try.f96, Try.func96, rfl, by decide +kernel⟩
theorem body97 : ∃ fn, Try.prog.funcs[97]? = some fn ∧ fn.body.isSome = true ∧ fn.name ≠ "runtime.NumGoroutine" := ⟨Try.f97, Try.func97, rfl, by decide +kernel⟩
attribute [go_sem] agg2 cells2 info2 guard2 Try.underlying2 zero2 agg3 cells3 info3 guard3 Try.underlying3 zero3 agg4 cells4 info4 guard4 Try.underlying4 zero4 agg5 cells5 info5 guard5 Try.underlying5 zero5 agg9 cells9 info9 guard9 Try.underlying9 zero9 agg22 cells22 info22 guard22 Try.underlying22 zero22 app22 agg24 cells24 info24 guard24 Try.underlying24 zero24 build24 stood24 agg26 cells26 info26 guard26 Try.underlying26 zero26 build26 stood26 agg27 cells27 info27 guard27 Try.underlying27 zero27 app27 agg29 cells29 info29 guard29 Try.underlying29 zero29 build29 stood29 agg30 cells30 info30 guard30 Try.underlying30 zero30 app30 agg31 cells31 info31 guard31 Try.underlying31 zero31 agg37 cells37 info37 guard37 Try.underlying37 zero37 agg40 cells40 info40 guard40 Try.underlying40 zero40 app40 agg41 cells41 info41 guard41 Try.underlying41 zero41 app41 agg55 cells55 info55 guard55 Try.underlying55 zero55 agg58 cells58 info58 guard58 Try.underlying58 zero58 build58 stood58 agg63 cells63 info63 guard63 Try.underlying63 zero63 agg65 cells65 info65 guard65 Try.underlying65 zero65 build65 stood65 agg72 cells72 info72 guard72 Try.underlying72 zero72 agg74 cells74 info74 guard74 Try.underlying74 zero74 agg89 cells89 info89 guard89 Try.underlying89 zero89 build89 agg93 cells93 info93 guard93 Try.underlying93 zero93 build93 agg96 cells96 info96 guard96 Try.underlying96 zero96 agg97 cells97 info97 guard97 Try.underlying97 zero97 app97 agg101 cells101 info101 guard101 Try.underlying101 zero101 agg110 cells110 info110 guard110 Try.underlying110 zero110 agg112 cells112 info112 guard112 Try.underlying112 zero112 agg113 cells113 info113 guard113 Try.underlying113 zero113 agg118 cells118 info118 guard118 Try.underlying118 zero118 an3 an4 an5 an6 an7 an8 an9 an10 an11 an12 an13 an14 an15 an16 an17 an18 an19 an20 an21 an22 an23 an24 an25 an26 an27 an28 an29 an30 an31 an32 an33 an34 an35 an36 an37 an38 an39 an40 an41 an42 an43 an44 an45 an46 an47 an48 an49 an50 an51 an52 an53 an54 an55 an56 an57 an58 an59 an60 an61 an62 an63 an64 an65 an66 an67 an68 an69 an70 an71 an72 an73 an74 an75 an76 an77 an78 an79 an80 an81 an82 an83 an84 an85 an86 an87 an88 an89 an90 an91 an92 an93 an94 an95 an96 an97 ann3 ann4 ann5 ann6 ann7 ann8 ann9 ann10 ann11 ann12 ann13 ann14 ann15 ann16 ann17 ann18 ann19 ann20 ann21 ann22 ann23 ann24 ann25 ann26 ann27 ann28 ann29 ann30 ann31 ann32 ann33 ann34 ann35 ann36 ann37 ann38 ann39 ann40 ann41 ann42 ann43 ann44 ann45 ann46 ann47 ann48 ann49 ann50 ann51 ann52 ann53 ann54 ann55 ann56 ann57 ann58 ann59 ann60 ann61 ann62 ann63 ann64 ann65 ann66 ann67 ann68 ann69 ann70 ann71 ann72 ann73 ann74 ann75 ann76 ann77 ann78 ann79 ann80 ann81 ann82 ann83 ann84 ann85 ann86 ann87 ann88 ann89 ann90 ann91 ann92 ann93 ann94 ann95 ann96 ann97

end Go.Proofs.Ytalbakjfbgkjjaa
