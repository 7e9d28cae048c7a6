/- The table of functions fits the program, part 1; written by a program (gentab.py). -/
import Derived.Test.YtkjailapincfbabGreatDoorTab
import Derived.KernelRfl
set_option maxRecDepth 1000000
set_option linter.all false
namespace Go.Proofs.YtkjailapincfbabGreatDoor
open Go.Sim

theorem fnk64 : FnRow Tryz.prog 64 Tryz.f64 := ⟨Tryz.func64, by kernel_rfl, .inl (by kernel_rfl)⟩
theorem fnk65 : FnRow Tryz.prog 65 Tryz.f65 := ⟨Tryz.func65, by kernel_rfl, .inl (by kernel_rfl)⟩
theorem fnk66 : FnRow Tryz.prog 66 Tryz.f66 := ⟨Tryz.func66, by kernel_rfl, .inl (by kernel_rfl)⟩
theorem fnk67 : FnRow Tryz.prog 67 Tryz.f67 := ⟨Tryz.func67, by kernel_rfl, .inl (by kernel_rfl)⟩
theorem fnk68 : FnRow Tryz.prog 68 Tryz.f68 := ⟨Tryz.func68, by kernel_rfl, .inl (by kernel_rfl)⟩
theorem fnk69 : FnRow Tryz.prog 69 Tryz.f69 := ⟨Tryz.func69, by kernel_rfl, .inl (by kernel_rfl)⟩
theorem fnk70 : FnRow Tryz.prog 70 Tryz.f70 := ⟨Tryz.func70, by kernel_rfl, .inl (by kernel_rfl)⟩
theorem fnk71 : FnRow Tryz.prog 71 Tryz.f71 := ⟨Tryz.func71, by kernel_rfl, .inl (by kernel_rfl)⟩
theorem fnk72 : FnRow Tryz.prog 72 Tryz.f72 := ⟨Tryz.func72, by kernel_rfl, .inl (by kernel_rfl)⟩
theorem fnk73 : FnRow Tryz.prog 73 Tryz.f73 := ⟨Tryz.func73, by kernel_rfl, .inl (by kernel_rfl)⟩
theorem fnk74 : FnRow Tryz.prog 74 Tryz.f74 := ⟨Tryz.func74, by kernel_rfl, .inl (by kernel_rfl)⟩
theorem fnk75 : FnRow Tryz.prog 75 Tryz.f75 := ⟨Tryz.func75, by kernel_rfl, .inl (by kernel_rfl)⟩
theorem fnk76 : FnRow Tryz.prog 76 Tryz.f76 := ⟨Tryz.func76, by kernel_rfl, .inl (by kernel_rfl)⟩
theorem fnk77 : FnRow Tryz.prog 77 Tryz.f77 := ⟨Tryz.func77, by kernel_rfl, .inl (by kernel_rfl)⟩
theorem fnk78 : FnRow Tryz.prog 78 Tryz.f78 := ⟨Tryz.func78, by kernel_rfl, .inl (by kernel_rfl)⟩
theorem fnk79 : FnRow Tryz.prog 79 Tryz.f79 := ⟨Tryz.func79, by kernel_rfl, .inl (by kernel_rfl)⟩
theorem fnk80 : FnRow Tryz.prog 80 Tryz.f80 := ⟨Tryz.func80, by kernel_rfl, .inl (by kernel_rfl)⟩
theorem fnk81 : FnRow Tryz.prog 81 Tryz.f81 := ⟨Tryz.func81, by kernel_rfl, .inl (by kernel_rfl)⟩
theorem fnk82 : FnRow Tryz.prog 82 Tryz.f82 := ⟨Tryz.func82, by kernel_rfl, .inl (by kernel_rfl)⟩
theorem fnk83 : FnRow Tryz.prog 83 Tryz.f83 := ⟨Tryz.func83, by kernel_rfl, .inl (by kernel_rfl)⟩
theorem fnk84 : FnRow Tryz.prog 84 Tryz.f84 := ⟨Tryz.func84, by kernel_rfl, .inl (by kernel_rfl)⟩
theorem fnk85 : FnRow Tryz.prog 85 Tryz.f85 := ⟨Tryz.func85, by kernel_rfl, .inl (by kernel_rfl)⟩
theorem fnk86 : FnRow Tryz.prog 86 Tryz.f86 := ⟨Tryz.func86, by kernel_rfl, .inl (by kernel_rfl)⟩
theorem fnk87 : FnRow Tryz.prog 87 Tryz.f87 := ⟨Tryz.func87, by kernel_rfl, .inl (by kernel_rfl)⟩
theorem fnk88 : FnRow Tryz.prog 88 Tryz.f88 := ⟨Tryz.func88, by kernel_rfl, .inl (by kernel_rfl)⟩
theorem fnk89 : FnRow Tryz.prog 89 Tryz.f89 := ⟨Tryz.func89, by kernel_rfl, .inl (by kernel_rfl)⟩
theorem fnk90 : FnRow Tryz.prog 90 Tryz.f90 := ⟨Tryz.func90, by kernel_rfl, .inl (by kernel_rfl)⟩
theorem fnk91 : FnRow Tryz.prog 91 Tryz.f91 := ⟨Tryz.func91, by kernel_rfl, .inl (by kernel_rfl)⟩
theorem fnk92 : FnRow Tryz.prog 92 Tryz.f92 := ⟨Tryz.func92, by kernel_rfl, .inl (by kernel_rfl)⟩
theorem fnk93 : FnRow Tryz.prog 93 Tryz.f93 := ⟨Tryz.func93, by kernel_rfl, .inl (by kernel_rfl)⟩
theorem fnk94 : FnRow Tryz.prog 94 Tryz.f94 := ⟨Tryz.func94, by kernel_rfl, .inl (by kernel_rfl)⟩
theorem fnk95 : FnRow Tryz.prog 95 Tryz.f95 := ⟨Tryz.func95, by kernel_rfl, .inl (by kernel_rfl)⟩
theorem fnk96 : FnRow Tryz.prog 96 Tryz.f96 := ⟨Tryz.func96, by kernel_rfl, .inl (by kernel_rfl)⟩
theorem fnk97 : FnRow Tryz.prog 97 Tryz.f97 := ⟨Tryz.func97, by kernel_rfl, .inl (by kernel_rfl)⟩
theorem fnk98 : FnRow Tryz.prog 98 Tryz.f98 := ⟨Tryz.func98, by kernel_rfl, .inl (by kernel_rfl)⟩
theorem fnk99 : FnRow Tryz.prog 99 Tryz.f99 := ⟨Tryz.func99, by kernel_rfl, .inl (by kernel_rfl)⟩
theorem fnk100 : FnRow Tryz.prog 100 Tryz.f100 := ⟨Tryz.func100, by kernel_rfl, .inl (by kernel_rfl)⟩
theorem fnk101 : FnRow Tryz.prog 101 Tryz.f101 := ⟨Tryz.func101, by kernel_rfl, .inl (by kernel_rfl)⟩
theorem fnk102 : FnRow Tryz.prog 102 Tryz.f102 := ⟨Tryz.func102, by kernel_rfl, .inl (by kernel_rfl)⟩
theorem fnk103 : FnRow Tryz.prog 103 Tryz.f103 := ⟨Tryz.func103, by kernel_rfl, .inl (by kernel_rfl)⟩
theorem fnk104 : FnRow Tryz.prog 104 Tryz.f104 := ⟨Tryz.func104, by kernel_rfl, .inl (by kernel_rfl)⟩
theorem fnk105 : FnRow Tryz.prog 105 Tryz.f105 := ⟨Tryz.func105, by kernel_rfl, .inl (by kernel_rfl)⟩
theorem fnk106 : FnRow Tryz.prog 106 Tryz.f106 := ⟨Tryz.func106, by kernel_rfl, .inl (by kernel_rfl)⟩
theorem fnk107 : FnRow Tryz.prog 107 Tryz.f107 := ⟨Tryz.func107, by kernel_rfl, .inl (by kernel_rfl)⟩
theorem fnk108 : FnRow Tryz.prog 108 Tryz.f108 := ⟨Tryz.func108, by kernel_rfl, .inl (by kernel_rfl)⟩
theorem fnk109 : FnRow Tryz.prog 109 Tryz.f109 := ⟨Tryz.func109, by kernel_rfl, .inl (by kernel_rfl)⟩
theorem fnk110 : FnRow Tryz.prog 110 Tryz.f110 := ⟨Tryz.func110, by kernel_rfl, .inl (by kernel_rfl)⟩
theorem fnk111 : FnRow Tryz.prog 111 Tryz.f111 := ⟨Tryz.func111, by kernel_rfl, .inl (by kernel_rfl)⟩
theorem fnk112 : FnRow Tryz.prog 112 Tryz.f112 := ⟨Tryz.func112, by kernel_rfl, .inl (by kernel_rfl)⟩
theorem fnk113 : FnRow Tryz.prog 113 Tryz.f113 := ⟨Tryz.func113, by kernel_rfl, .inl (by kernel_rfl)⟩
theorem fnk114 : FnRow Tryz.prog 114 Tryz.f114 := ⟨Tryz.func114, by kernel_rfl, .inl (by kernel_rfl)⟩
theorem fnk115 : FnRow Tryz.prog 115 Tryz.f115 := ⟨Tryz.func115, by kernel_rfl, .inl (by kernel_rfl)⟩
theorem fnk116 : FnRow Tryz.prog 116 Tryz.f116 := ⟨Tryz.func116, by kernel_rfl, .inl (by kernel_rfl)⟩
theorem fnk117 : FnRow Tryz.prog 117 Tryz.f117 := ⟨Tryz.func117, by kernel_rfl, .inl (by kernel_rfl)⟩
theorem fnk118 : FnRow Tryz.prog 118 Tryz.f118 := ⟨Tryz.func118, by kernel_rfl, .inl (by kernel_rfl)⟩
theorem fnk119 : FnRow Tryz.prog 119 Tryz.f119 := ⟨Tryz.func119, by kernel_rfl, .inl (by kernel_rfl)⟩
theorem fnk120 : FnRow Tryz.prog 120 Tryz.f120 := ⟨Tryz.func120, by kernel_rfl, .inl (by kernel_rfl)⟩
theorem fnk121 : FnRow Tryz.prog 121 Tryz.f121 := ⟨Tryz.func121, by kernel_rfl, .inl (by kernel_rfl)⟩
theorem fnk122 : FnRow Tryz.prog 122 Tryz.f122 := ⟨Tryz.func122, by kernel_rfl, .inl (by kernel_rfl)⟩
theorem fnk123 : FnRow Tryz.prog 123 Tryz.f123 := ⟨Tryz.func123, by kernel_rfl, .inl (by kernel_rfl)⟩
theorem fnk124 : FnRow Tryz.prog 124 Tryz.f124 := ⟨Tryz.func124, by kernel_rfl, .inl (by kernel_rfl)⟩
theorem fnk125 : FnRow Tryz.prog 125 Tryz.f125 := ⟨Tryz.func125, by kernel_rfl, .inl (by kernel_rfl)⟩
theorem fnk126 : FnRow Tryz.prog 126 Tryz.f126 := ⟨Tryz.func126, by kernel_rfl, .inl (by kernel_rfl)⟩
theorem fnk127 : FnRow Tryz.prog 127 Tryz.f127 := ⟨Tryz.func127, by kernel_rfl, .inl (by kernel_rfl)⟩

end Go.Proofs.YtkjailapincfbabGreatDoor
