/- The table of functions fits the program, part 0; written by a program (gentab.py). -/
import Derived.Test.YtkjailapincfbabGreatDoorTab
import Derived.KernelRfl
set_option maxRecDepth 1000000
set_option linter.all false
namespace Go.Proofs.YtkjailapincfbabGreatDoor
open Go.Sim

theorem fnk0 : FnRow Tryz.prog 0 Tryz.f0 := ⟨Tryz.func0, by kernel_rfl, .inl (by kernel_rfl)⟩
theorem fnk1 : FnRow Tryz.prog 1 Tryz.f1 := ⟨Tryz.func1, by kernel_rfl, .inl (by kernel_rfl)⟩
theorem fnk2 : FnRow Tryz.prog 2 Tryz.f2 := ⟨Tryz.func2, by kernel_rfl, .inl (by kernel_rfl)⟩
theorem fnk3 : FnRow Tryz.prog 3 Tryz.f3 := ⟨Tryz.func3, by kernel_rfl, .inl (by kernel_rfl)⟩
theorem fnk4 : FnRow Tryz.prog 4 Tryz.f4 := ⟨Tryz.func4, by kernel_rfl, .inl (by kernel_rfl)⟩
theorem fnk5 : FnRow Tryz.prog 5 Tryz.f5 := ⟨Tryz.func5, by kernel_rfl, .inl (by kernel_rfl)⟩
theorem fnk6 : FnRow Tryz.prog 6 Tryz.f6 := ⟨Tryz.func6, by kernel_rfl, .inl (by kernel_rfl)⟩
theorem fnk7 : FnRow Tryz.prog 7 Tryz.f7 := ⟨Tryz.func7, by kernel_rfl, .inl (by kernel_rfl)⟩
theorem fnk8 : FnRow Tryz.prog 8 Tryz.f8 := ⟨Tryz.func8, by kernel_rfl, .inl (by kernel_rfl)⟩
theorem fnk9 : FnRow Tryz.prog 9 Tryz.f9 := ⟨Tryz.func9, by kernel_rfl, .inl (by kernel_rfl)⟩
theorem fnk10 : FnRow Tryz.prog 10 Tryz.f10 := ⟨Tryz.func10, by kernel_rfl, .inl (by kernel_rfl)⟩
theorem fnk11 : FnRow Tryz.prog 11 Tryz.f11 := ⟨Tryz.func11, by kernel_rfl, .inl (by kernel_rfl)⟩
theorem fnk12 : FnRow Tryz.prog 12 Tryz.f12 := ⟨Tryz.func12, by kernel_rfl, .inl (by kernel_rfl)⟩
theorem fnk13 : FnRow Tryz.prog 13 Tryz.f13 := ⟨Tryz.func13, by kernel_rfl, .inl (by kernel_rfl)⟩
theorem fnk14 : FnRow Tryz.prog 14 Tryz.f14 := ⟨Tryz.func14, by kernel_rfl, .inl (by kernel_rfl)⟩
theorem fnk15 : FnRow Tryz.prog 15 Tryz.f15 := ⟨Tryz.func15, by kernel_rfl, .inl (by kernel_rfl)⟩
theorem fnk16 : FnRow Tryz.prog 16 Tryz.f16 := ⟨Tryz.func16, by kernel_rfl, .inl (by kernel_rfl)⟩
theorem fnk17 : FnRow Tryz.prog 17 Tryz.f17 := ⟨Tryz.func17, by kernel_rfl, .inl (by kernel_rfl)⟩
theorem fnk18 : FnRow Tryz.prog 18 Tryz.f18 := ⟨Tryz.func18, by kernel_rfl, .inl (by kernel_rfl)⟩
theorem fnk19 : FnRow Tryz.prog 19 Tryz.f19 := ⟨Tryz.func19, by kernel_rfl, .inl (by kernel_rfl)⟩
theorem fnk20 : FnRow Tryz.prog 20 Tryz.f20 := ⟨Tryz.func20, by kernel_rfl, .inl (by kernel_rfl)⟩
theorem fnk21 : FnRow Tryz.prog 21 Tryz.f21 := ⟨Tryz.func21, by kernel_rfl, .inl (by kernel_rfl)⟩
theorem fnk22 : FnRow Tryz.prog 22 Tryz.f22 := ⟨Tryz.func22, by kernel_rfl, .inl (by kernel_rfl)⟩
theorem fnk23 : FnRow Tryz.prog 23 Tryz.f23 := ⟨Tryz.func23, by kernel_rfl, .inl (by kernel_rfl)⟩
theorem fnk24 : FnRow Tryz.prog 24 Tryz.f24 := ⟨Tryz.func24, by kernel_rfl, .inl (by kernel_rfl)⟩
theorem fnk25 : FnRow Tryz.prog 25 Tryz.f25 := ⟨Tryz.func25, by kernel_rfl, .inl (by kernel_rfl)⟩
theorem fnk26 : FnRow Tryz.prog 26 Tryz.f26 := ⟨Tryz.func26, by kernel_rfl, .inl (by kernel_rfl)⟩
theorem fnk27 : FnRow Tryz.prog 27 Tryz.f27 := ⟨Tryz.func27, by kernel_rfl, .inl (by kernel_rfl)⟩
theorem fnk28 : FnRow Tryz.prog 28 Tryz.f28 := ⟨Tryz.func28, by kernel_rfl, .inl (by kernel_rfl)⟩
theorem fnk29 : FnRow Tryz.prog 29 Tryz.f29 := ⟨Tryz.func29, by kernel_rfl, .inl (by kernel_rfl)⟩
theorem fnk30 : FnRow Tryz.prog 30 Tryz.f30 := ⟨Tryz.func30, by kernel_rfl, .inl (by kernel_rfl)⟩
theorem fnk31 : FnRow Tryz.prog 31 Tryz.f31 := ⟨Tryz.func31, by kernel_rfl, .inl (by kernel_rfl)⟩
theorem fnk32 : FnRow Tryz.prog 32 Tryz.f32 := ⟨Tryz.func32, by kernel_rfl, .inl (by kernel_rfl)⟩
theorem fnk33 : FnRow Tryz.prog 33 Tryz.f33 := ⟨Tryz.func33, by kernel_rfl, .inl (by kernel_rfl)⟩
theorem fnk34 : FnRow Tryz.prog 34 Tryz.f34 := ⟨Tryz.func34, by kernel_rfl, .inl (by kernel_rfl)⟩
theorem fnk35 : FnRow Tryz.prog 35 Tryz.f35 := ⟨Tryz.func35, by kernel_rfl, .inl (by kernel_rfl)⟩
theorem fnk36 : FnRow Tryz.prog 36 Tryz.f36 := ⟨Tryz.func36, by kernel_rfl, .inl (by kernel_rfl)⟩
theorem fnk37 : FnRow Tryz.prog 37 Tryz.f37 := ⟨Tryz.func37, by kernel_rfl, .inl (by kernel_rfl)⟩
theorem fnk38 : FnRow Tryz.prog 38 Tryz.f38 := ⟨Tryz.func38, by kernel_rfl, .inl (by kernel_rfl)⟩
theorem fnk39 : FnRow Tryz.prog 39 Tryz.f39 := ⟨Tryz.func39, by kernel_rfl, .inl (by kernel_rfl)⟩
theorem fnk40 : FnRow Tryz.prog 40 Tryz.f40 := ⟨Tryz.func40, by kernel_rfl, .inl (by kernel_rfl)⟩
theorem fnk41 : FnRow Tryz.prog 41 Tryz.f41 := ⟨Tryz.func41, by kernel_rfl, .inl (by kernel_rfl)⟩
theorem fnk42 : FnRow Tryz.prog 42 Tryz.f42 := ⟨Tryz.func42, by kernel_rfl, .inl (by kernel_rfl)⟩
theorem fnk43 : FnRow Tryz.prog 43 Tryz.f43 := ⟨Tryz.func43, by kernel_rfl, .inl (by kernel_rfl)⟩
theorem fnk44 : FnRow Tryz.prog 44 Tryz.f44 := ⟨Tryz.func44, by kernel_rfl, .inl (by kernel_rfl)⟩
theorem fnk45 : FnRow Tryz.prog 45 Tryz.f45 := ⟨Tryz.func45, by kernel_rfl, .inl (by kernel_rfl)⟩
theorem fnk46 : FnRow Tryz.prog 46 Tryz.f46 := ⟨Tryz.func46, by kernel_rfl, .inl (by kernel_rfl)⟩
theorem fnk47 : FnRow Tryz.prog 47 Tryz.f47 := ⟨Tryz.func47, by kernel_rfl, .inl (by kernel_rfl)⟩
theorem fnk48 : FnRow Tryz.prog 48 Tryz.f48 := ⟨Tryz.func48, by kernel_rfl, .inl (by kernel_rfl)⟩
theorem fnk49 : FnRow Tryz.prog 49 Tryz.f49 := ⟨Tryz.func49, by kernel_rfl, .inl (by kernel_rfl)⟩
theorem fnk50 : FnRow Tryz.prog 50 Tryz.f50 := ⟨Tryz.func50, by kernel_rfl, .inl (by kernel_rfl)⟩
theorem fnk51 : FnRow Tryz.prog 51 Tryz.f51 := ⟨Tryz.func51, by kernel_rfl, .inl (by kernel_rfl)⟩
theorem fnk52 : FnRow Tryz.prog 52 Tryz.f52 := ⟨Tryz.func52, by kernel_rfl, .inl (by kernel_rfl)⟩
theorem fnk53 : FnRow Tryz.prog 53 Tryz.f53 := ⟨Tryz.func53, by kernel_rfl, .inl (by kernel_rfl)⟩
theorem fnk54 : FnRow Tryz.prog 54 Tryz.f54 := ⟨Tryz.func54, by kernel_rfl, .inl (by kernel_rfl)⟩
theorem fnk55 : FnRow Tryz.prog 55 Tryz.f55 := ⟨Tryz.func55, by kernel_rfl, .inl (by kernel_rfl)⟩
theorem fnk56 : FnRow Tryz.prog 56 Tryz.f56 := ⟨Tryz.func56, by kernel_rfl, .inl (by kernel_rfl)⟩
theorem fnk57 : FnRow Tryz.prog 57 Tryz.f57 := ⟨Tryz.func57, by kernel_rfl, .inl (by kernel_rfl)⟩
theorem fnk58 : FnRow Tryz.prog 58 Tryz.f58 := ⟨Tryz.func58, by kernel_rfl, .inl (by kernel_rfl)⟩
theorem fnk59 : FnRow Tryz.prog 59 Tryz.f59 := ⟨Tryz.func59, by kernel_rfl, .inl (by kernel_rfl)⟩
theorem fnk60 : FnRow Tryz.prog 60 Tryz.f60 := ⟨Tryz.func60, by kernel_rfl, .inl (by kernel_rfl)⟩
theorem fnk61 : FnRow Tryz.prog 61 Tryz.f61 := ⟨Tryz.func61, by kernel_rfl, .inl (by kernel_rfl)⟩
theorem fnk62 : FnRow Tryz.prog 62 Tryz.f62 := ⟨Tryz.func62, by kernel_rfl, .inl (by kernel_rfl)⟩
theorem fnk63 : FnRow Tryz.prog 63 Tryz.f63 := ⟨Tryz.func63, by kernel_rfl, .inl (by kernel_rfl)⟩

end Go.Proofs.YtkjailapincfbabGreatDoor
