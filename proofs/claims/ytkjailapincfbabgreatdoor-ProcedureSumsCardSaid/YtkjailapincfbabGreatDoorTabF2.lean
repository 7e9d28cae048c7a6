/- The table of functions fits the program, part 2; written by a program (gentab.py). -/
import Derived.Test.YtkjailapincfbabGreatDoorTab
import Derived.KernelRfl
set_option maxRecDepth 1000000
set_option linter.all false
namespace Go.Proofs.YtkjailapincfbabGreatDoor
open Go.Sim

theorem fnk128 : FnRow Tryz.prog 128 Tryz.f128 := ⟨Tryz.func128, by kernel_rfl, .inl (by kernel_rfl)⟩
theorem fnk129 : FnRow Tryz.prog 129 Tryz.f129 := ⟨Tryz.func129, by kernel_rfl, .inl (by kernel_rfl)⟩
theorem fnk130 : FnRow Tryz.prog 130 Tryz.f130 := ⟨Tryz.func130, by kernel_rfl, .inl (by kernel_rfl)⟩
theorem fnk131 : FnRow Tryz.prog 131 Tryz.f131 := ⟨Tryz.func131, by kernel_rfl, .inl (by kernel_rfl)⟩
theorem fnk132 : FnRow Tryz.prog 132 Tryz.f132 := ⟨Tryz.func132, by kernel_rfl, .inl (by kernel_rfl)⟩
theorem fnk133 : FnRow Tryz.prog 133 Tryz.f133 := ⟨Tryz.func133, by kernel_rfl, .inl (by kernel_rfl)⟩
theorem fnk134 : FnRow Tryz.prog 134 Tryz.f134 := ⟨Tryz.func134, by kernel_rfl, .inl (by kernel_rfl)⟩
theorem fnk135 : FnRow Tryz.prog 135 Tryz.f135 := ⟨Tryz.func135, by kernel_rfl, .inr ⟨by kernel_rfl, by kernel_rfl⟩⟩
theorem fnk136 : FnRow Tryz.prog 136 Tryz.f136 := ⟨Tryz.func136, by kernel_rfl, .inl (by kernel_rfl)⟩
theorem fnk137 : FnRow Tryz.prog 137 Tryz.f137 := ⟨Tryz.func137, by kernel_rfl, .inl (by kernel_rfl)⟩
theorem fnk138 : FnRow Tryz.prog 138 Tryz.f138 := ⟨Tryz.func138, by kernel_rfl, .inl (by kernel_rfl)⟩
theorem fnk139 : FnRow Tryz.prog 139 Tryz.f139 := ⟨Tryz.func139, by kernel_rfl, .inl (by kernel_rfl)⟩
theorem fnk140 : FnRow Tryz.prog 140 Tryz.f140 := ⟨Tryz.func140, by kernel_rfl, .inl (by kernel_rfl)⟩
theorem fnk141 : FnRow Tryz.prog 141 Tryz.f141 := ⟨Tryz.func141, by kernel_rfl, .inl (by kernel_rfl)⟩
theorem fnk142 : FnRow Tryz.prog 142 Tryz.f142 := ⟨Tryz.func142, by kernel_rfl, .inl (by kernel_rfl)⟩
theorem fnk143 : FnRow Tryz.prog 143 Tryz.f143 := ⟨Tryz.func143, by kernel_rfl, .inl (by kernel_rfl)⟩
theorem fnk144 : FnRow Tryz.prog 144 Tryz.f144 := ⟨Tryz.func144, by kernel_rfl, .inl (by kernel_rfl)⟩
theorem fnk145 : FnRow Tryz.prog 145 Tryz.f145 := ⟨Tryz.func145, by kernel_rfl, .inl (by kernel_rfl)⟩
theorem fnk146 : FnRow Tryz.prog 146 Tryz.f146 := ⟨Tryz.func146, by kernel_rfl, .inl (by kernel_rfl)⟩
theorem fnk147 : FnRow Tryz.prog 147 Tryz.f147 := ⟨Tryz.func147, by kernel_rfl, .inl (by kernel_rfl)⟩
theorem fnk148 : FnRow Tryz.prog 148 Tryz.f148 := ⟨Tryz.func148, by kernel_rfl, .inl (by kernel_rfl)⟩
theorem fnk149 : FnRow Tryz.prog 149 Tryz.f149 := ⟨Tryz.func149, by kernel_rfl, .inl (by kernel_rfl)⟩
theorem fnk150 : FnRow Tryz.prog 150 Tryz.f150 := ⟨Tryz.func150, by kernel_rfl, .inl (by kernel_rfl)⟩
theorem fnk151 : FnRow Tryz.prog 151 Tryz.f151 := ⟨Tryz.func151, by kernel_rfl, .inl (by kernel_rfl)⟩
theorem fnk152 : FnRow Tryz.prog 152 Tryz.f152 := ⟨Tryz.func152, by kernel_rfl, .inl (by kernel_rfl)⟩
theorem fnk153 : FnRow Tryz.prog 153 Tryz.f153 := ⟨Tryz.func153, by kernel_rfl, .inl (by kernel_rfl)⟩
theorem fnk154 : FnRow Tryz.prog 154 Tryz.f154 := ⟨Tryz.func154, by kernel_rfl, .inl (by kernel_rfl)⟩
theorem fnk155 : FnRow Tryz.prog 155 Tryz.f155 := ⟨Tryz.func155, by kernel_rfl, .inl (by kernel_rfl)⟩
theorem fnk156 : FnRow Tryz.prog 156 Tryz.f156 := ⟨Tryz.func156, by kernel_rfl, .inl (by kernel_rfl)⟩
theorem fnk157 : FnRow Tryz.prog 157 Tryz.f157 := ⟨Tryz.func157, by kernel_rfl, .inl (by kernel_rfl)⟩
theorem fnk158 : FnRow Tryz.prog 158 Tryz.f158 := ⟨Tryz.func158, by kernel_rfl, .inl (by kernel_rfl)⟩
theorem fnk159 : FnRow Tryz.prog 159 Tryz.f159 := ⟨Tryz.func159, by kernel_rfl, .inl (by kernel_rfl)⟩
theorem fnk160 : FnRow Tryz.prog 160 Tryz.f160 := ⟨Tryz.func160, by kernel_rfl, .inl (by kernel_rfl)⟩
theorem fnk161 : FnRow Tryz.prog 161 Tryz.f161 := ⟨Tryz.func161, by kernel_rfl, .inl (by kernel_rfl)⟩
theorem fnk162 : FnRow Tryz.prog 162 Tryz.f162 := ⟨Tryz.func162, by kernel_rfl, .inl (by kernel_rfl)⟩
theorem fnk163 : FnRow Tryz.prog 163 Tryz.f163 := ⟨Tryz.func163, by kernel_rfl, .inl (by kernel_rfl)⟩
theorem fnk164 : FnRow Tryz.prog 164 Tryz.f164 := ⟨Tryz.func164, by kernel_rfl, .inl (by kernel_rfl)⟩
theorem fnk165 : FnRow Tryz.prog 165 Tryz.f165 := ⟨Tryz.func165, by kernel_rfl, .inl (by kernel_rfl)⟩
theorem fnk166 : FnRow Tryz.prog 166 Tryz.f166 := ⟨Tryz.func166, by kernel_rfl, .inl (by kernel_rfl)⟩
theorem fnk167 : FnRow Tryz.prog 167 Tryz.f167 := ⟨Tryz.func167, by kernel_rfl, .inl (by kernel_rfl)⟩
theorem fnk168 : FnRow Tryz.prog 168 Tryz.f168 := ⟨Tryz.func168, by kernel_rfl, .inl (by kernel_rfl)⟩
theorem fnk169 : FnRow Tryz.prog 169 Tryz.f169 := ⟨Tryz.func169, by kernel_rfl, .inl (by kernel_rfl)⟩
theorem fnk170 : FnRow Tryz.prog 170 Tryz.f170 := ⟨Tryz.func170, by kernel_rfl, .inl (by kernel_rfl)⟩
theorem fnk171 : FnRow Tryz.prog 171 Tryz.f171 := ⟨Tryz.func171, by kernel_rfl, .inl (by kernel_rfl)⟩
theorem fnk172 : FnRow Tryz.prog 172 Tryz.f172 := ⟨Tryz.func172, by kernel_rfl, .inl (by kernel_rfl)⟩
theorem fnk173 : FnRow Tryz.prog 173 Tryz.f173 := ⟨Tryz.func173, by kernel_rfl, .inl (by kernel_rfl)⟩
theorem fnk174 : FnRow Tryz.prog 174 Tryz.f174 := ⟨Tryz.func174, by kernel_rfl, .inl (by kernel_rfl)⟩
theorem fnk175 : FnRow Tryz.prog 175 Tryz.f175 := ⟨Tryz.func175, by kernel_rfl, .inl (by kernel_rfl)⟩
theorem fnk176 : FnRow Tryz.prog 176 Tryz.f176 := ⟨Tryz.func176, by kernel_rfl, .inl (by kernel_rfl)⟩
theorem fnk177 : FnRow Tryz.prog 177 Tryz.f177 := ⟨Tryz.func177, by kernel_rfl, .inl (by kernel_rfl)⟩
theorem fnk178 : FnRow Tryz.prog 178 Tryz.f178 := ⟨Tryz.func178, by kernel_rfl, .inl (by kernel_rfl)⟩
theorem fnk179 : FnRow Tryz.prog 179 Tryz.f179 := ⟨Tryz.func179, by kernel_rfl, .inl (by kernel_rfl)⟩
theorem fnk180 : FnRow Tryz.prog 180 Tryz.f180 := ⟨Tryz.func180, by kernel_rfl, .inl (by kernel_rfl)⟩
theorem fnk181 : FnRow Tryz.prog 181 Tryz.f181 := ⟨Tryz.func181, by kernel_rfl, .inl (by kernel_rfl)⟩
theorem fnk182 : FnRow Tryz.prog 182 Tryz.f182 := ⟨Tryz.func182, by kernel_rfl, .inl (by kernel_rfl)⟩
theorem fnk183 : FnRow Tryz.prog 183 Tryz.f183 := ⟨Tryz.func183, by kernel_rfl, .inl (by kernel_rfl)⟩
theorem fnk184 : FnRow Tryz.prog 184 Tryz.f184 := ⟨Tryz.func184, by kernel_rfl, .inl (by kernel_rfl)⟩
theorem fnk185 : FnRow Tryz.prog 185 Tryz.f185 := ⟨Tryz.func185, by kernel_rfl, .inl (by kernel_rfl)⟩
theorem fnk186 : FnRow Tryz.prog 186 Tryz.f186 := ⟨Tryz.func186, by kernel_rfl, .inl (by kernel_rfl)⟩
theorem fnk187 : FnRow Tryz.prog 187 Tryz.f187 := ⟨Tryz.func187, by kernel_rfl, .inl (by kernel_rfl)⟩
theorem fnk188 : FnRow Tryz.prog 188 Tryz.f188 := ⟨Tryz.func188, by kernel_rfl, .inl (by kernel_rfl)⟩
theorem fnk189 : FnRow Tryz.prog 189 Tryz.f189 := ⟨Tryz.func189, by kernel_rfl, .inl (by kernel_rfl)⟩
theorem fnk190 : FnRow Tryz.prog 190 Tryz.f190 := ⟨Tryz.func190, by kernel_rfl, .inl (by kernel_rfl)⟩
theorem fnk191 : FnRow Tryz.prog 191 Tryz.f191 := ⟨Tryz.func191, by kernel_rfl, .inl (by kernel_rfl)⟩

end Go.Proofs.YtkjailapincfbabGreatDoor
