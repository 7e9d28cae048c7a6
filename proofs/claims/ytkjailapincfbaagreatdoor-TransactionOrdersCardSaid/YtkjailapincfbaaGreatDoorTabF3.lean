/- The table of functions fits the program, part 3; written by a program (gentab.py). -/
import Derived.Test.YtkjailapincfbaaGreatDoorTab
import Derived.KernelRfl
set_option maxRecDepth 1000000
set_option linter.all false
namespace Go.Proofs.YtkjailapincfbaaGreatDoor
open Go.Sim

theorem fnk174 : FnRow Tryz.prog 174 Tryz.f174 := ⟨Tryz.func174, by kernel_rfl, .inl (by kernel_rfl)⟩
theorem fnk175 : FnRow Tryz.prog 175 Tryz.f175 := ⟨Tryz.func175, by kernel_rfl, .inl (by kernel_rfl)⟩
theorem fnk176 : FnRow Tryz.prog 176 Tryz.f176 := ⟨Tryz.func176, by kernel_rfl, .inl (by kernel_rfl)⟩
theorem fnk177 : FnRow Tryz.prog 177 Tryz.f177 := ⟨Tryz.func177, by kernel_rfl, .inl (by kernel_rfl)⟩
theorem fnk178 : FnRow Tryz.prog 178 Tryz.f178 := ⟨Tryz.func178, by kernel_rfl, .inl (by kernel_rfl)⟩
theorem fnk179 : FnRow Tryz.prog 179 Tryz.f179 := ⟨Tryz.func179, by kernel_rfl, .inl (by kernel_rfl)⟩
theorem fnk180 : FnRow Tryz.prog 180 Tryz.f180 := ⟨Tryz.func180, by kernel_rfl, .inl (by kernel_rfl)⟩
theorem fnk181 : FnRow Tryz.prog 181 Tryz.f181 := ⟨Tryz.func181, by kernel_rfl, .inl (by kernel_rfl)⟩
theorem fnk182 : FnRow Tryz.prog 182 Tryz.f182 := ⟨Tryz.func182, by kernel_rfl, .inl (by kernel_rfl)⟩
theorem fnk183 : FnRow Tryz.prog 183 Tryz.f183 := ⟨Tryz.func183, by kernel_rfl, .inl (by kernel_rfl)⟩
theorem fnk184 : FnRow Tryz.prog 184 Tryz.f184 := ⟨Tryz.func184, by kernel_rfl, .inl (by kernel_rfl)⟩
theorem fnk185 : FnRow Tryz.prog 185 Tryz.f185 := ⟨Tryz.func185, by kernel_rfl, .inl (by kernel_rfl)⟩
theorem fnk186 : FnRow Tryz.prog 186 Tryz.f186 := ⟨Tryz.func186, by kernel_rfl, .inl (by kernel_rfl)⟩
theorem fnk187 : FnRow Tryz.prog 187 Tryz.f187 := ⟨Tryz.func187, by kernel_rfl, .inl (by kernel_rfl)⟩
theorem fnk188 : FnRow Tryz.prog 188 Tryz.f188 := ⟨Tryz.func188, by kernel_rfl, .inl (by kernel_rfl)⟩
theorem fnk189 : FnRow Tryz.prog 189 Tryz.f189 := ⟨Tryz.func189, by kernel_rfl, .inl (by kernel_rfl)⟩
theorem fnk190 : FnRow Tryz.prog 190 Tryz.f190 := ⟨Tryz.func190, by kernel_rfl, .inl (by kernel_rfl)⟩
theorem fnk191 : FnRow Tryz.prog 191 Tryz.f191 := ⟨Tryz.func191, by kernel_rfl, .inl (by kernel_rfl)⟩
theorem fnk192 : FnRow Tryz.prog 192 Tryz.f192 := ⟨Tryz.func192, by kernel_rfl, .inl (by kernel_rfl)⟩
theorem fnk193 : FnRow Tryz.prog 193 Tryz.f193 := ⟨Tryz.func193, by kernel_rfl, .inl (by kernel_rfl)⟩
theorem fnk194 : FnRow Tryz.prog 194 Tryz.f194 := ⟨Tryz.func194, by kernel_rfl, .inl (by kernel_rfl)⟩
theorem fnk195 : FnRow Tryz.prog 195 Tryz.f195 := ⟨Tryz.func195, by kernel_rfl, .inl (by kernel_rfl)⟩
theorem fnk196 : FnRow Tryz.prog 196 Tryz.f196 := ⟨Tryz.func196, by kernel_rfl, .inl (by kernel_rfl)⟩
theorem fnk197 : FnRow Tryz.prog 197 Tryz.f197 := ⟨Tryz.func197, by kernel_rfl, .inl (by kernel_rfl)⟩
theorem fnk198 : FnRow Tryz.prog 198 Tryz.f198 := ⟨Tryz.func198, by kernel_rfl, .inl (by kernel_rfl)⟩
theorem fnk199 : FnRow Tryz.prog 199 Tryz.f199 := ⟨Tryz.func199, by kernel_rfl, .inl (by kernel_rfl)⟩
theorem fnk200 : FnRow Tryz.prog 200 Tryz.f200 := ⟨Tryz.func200, by kernel_rfl, .inl (by kernel_rfl)⟩
theorem fnk201 : FnRow Tryz.prog 201 Tryz.f201 := ⟨Tryz.func201, by kernel_rfl, .inl (by kernel_rfl)⟩
theorem fnk202 : FnRow Tryz.prog 202 Tryz.f202 := ⟨Tryz.func202, by kernel_rfl, .inl (by kernel_rfl)⟩
theorem fnk203 : FnRow Tryz.prog 203 Tryz.f203 := ⟨Tryz.func203, by kernel_rfl, .inl (by kernel_rfl)⟩
theorem fnk204 : FnRow Tryz.prog 204 Tryz.f204 := ⟨Tryz.func204, by kernel_rfl, .inl (by kernel_rfl)⟩
theorem fnk205 : FnRow Tryz.prog 205 Tryz.f205 := ⟨Tryz.func205, by kernel_rfl, .inl (by kernel_rfl)⟩
theorem fnk206 : FnRow Tryz.prog 206 Tryz.f206 := ⟨Tryz.func206, by kernel_rfl, .inl (by kernel_rfl)⟩
theorem fnk207 : FnRow Tryz.prog 207 Tryz.f207 := ⟨Tryz.func207, by kernel_rfl, .inl (by kernel_rfl)⟩
theorem fnk208 : FnRow Tryz.prog 208 Tryz.f208 := ⟨Tryz.func208, by kernel_rfl, .inl (by kernel_rfl)⟩
theorem fnk209 : FnRow Tryz.prog 209 Tryz.f209 := ⟨Tryz.func209, by kernel_rfl, .inl (by kernel_rfl)⟩
theorem fnk210 : FnRow Tryz.prog 210 Tryz.f210 := ⟨Tryz.func210, by kernel_rfl, .inl (by kernel_rfl)⟩
theorem fnk211 : FnRow Tryz.prog 211 Tryz.f211 := ⟨Tryz.func211, by kernel_rfl, .inl (by kernel_rfl)⟩
theorem fnk212 : FnRow Tryz.prog 212 Tryz.f212 := ⟨Tryz.func212, by kernel_rfl, .inl (by kernel_rfl)⟩
theorem fnk213 : FnRow Tryz.prog 213 Tryz.f213 := ⟨Tryz.func213, by kernel_rfl, .inl (by kernel_rfl)⟩
theorem fnk214 : FnRow Tryz.prog 214 Tryz.f214 := ⟨Tryz.func214, by kernel_rfl, .inl (by kernel_rfl)⟩
theorem fnk215 : FnRow Tryz.prog 215 Tryz.f215 := ⟨Tryz.func215, by kernel_rfl, .inl (by kernel_rfl)⟩
theorem fnk216 : FnRow Tryz.prog 216 Tryz.f216 := ⟨Tryz.func216, by kernel_rfl, .inl (by kernel_rfl)⟩
theorem fnk217 : FnRow Tryz.prog 217 Tryz.f217 := ⟨Tryz.func217, by kernel_rfl, .inl (by kernel_rfl)⟩
theorem fnk218 : FnRow Tryz.prog 218 Tryz.f218 := ⟨Tryz.func218, by kernel_rfl, .inl (by kernel_rfl)⟩
theorem fnk219 : FnRow Tryz.prog 219 Tryz.f219 := ⟨Tryz.func219, by kernel_rfl, .inl (by kernel_rfl)⟩
theorem fnk220 : FnRow Tryz.prog 220 Tryz.f220 := ⟨Tryz.func220, by kernel_rfl, .inl (by kernel_rfl)⟩
theorem fnk221 : FnRow Tryz.prog 221 Tryz.f221 := ⟨Tryz.func221, by kernel_rfl, .inl (by kernel_rfl)⟩
theorem fnk222 : FnRow Tryz.prog 222 Tryz.f222 := ⟨Tryz.func222, by kernel_rfl, .inl (by kernel_rfl)⟩
theorem fnk223 : FnRow Tryz.prog 223 Tryz.f223 := ⟨Tryz.func223, by kernel_rfl, .inl (by kernel_rfl)⟩
theorem fnk224 : FnRow Tryz.prog 224 Tryz.f224 := ⟨Tryz.func224, by kernel_rfl, .inl (by kernel_rfl)⟩
theorem fnk225 : FnRow Tryz.prog 225 Tryz.f225 := ⟨Tryz.func225, by kernel_rfl, .inl (by kernel_rfl)⟩
theorem fnk226 : FnRow Tryz.prog 226 Tryz.f226 := ⟨Tryz.func226, by kernel_rfl, .inl (by kernel_rfl)⟩
theorem fnk227 : FnRow Tryz.prog 227 Tryz.f227 := ⟨Tryz.func227, by kernel_rfl, .inl (by kernel_rfl)⟩
theorem fnk228 : FnRow Tryz.prog 228 Tryz.f228 := ⟨Tryz.func228, by kernel_rfl, .inl (by kernel_rfl)⟩
theorem fnk229 : FnRow Tryz.prog 229 Tryz.f229 := ⟨Tryz.func229, by kernel_rfl, .inl (by kernel_rfl)⟩
theorem fnk230 : FnRow Tryz.prog 230 Tryz.f230 := ⟨Tryz.func230, by kernel_rfl, .inl (by kernel_rfl)⟩

end Go.Proofs.YtkjailapincfbaaGreatDoor
