/- The table of functions fits the program, part 3; written by a program (gentab.py). -/
import Derived.Test.YtkjailapincfbabGreatDoorTab
import Derived.KernelRfl
set_option maxRecDepth 1000000
set_option linter.all false
namespace Go.Proofs.YtkjailapincfbabGreatDoor
open Go.Sim

theorem fnk192 : FnRow Tryz.prog 192 Tryz.f192 := ⟨Tryz.func192, by kernel_rfl, .inl (by kernel_rfl)⟩
theorem fnk193 : FnRow Tryz.prog 193 Tryz.f193 := ⟨Tryz.func193, by kernel_rfl, .inl (by kernel_rfl)⟩
theorem fnk194 : FnRow Tryz.prog 194 Tryz.f194 := ⟨Tryz.func194, by kernel_rfl, .inl (by kernel_rfl)⟩
theorem fnk195 : FnRow Tryz.prog 195 Tryz.f195 := ⟨Tryz.func195, by kernel_rfl, .inl (by kernel_rfl)⟩
theorem fnk196 : FnRow Tryz.prog 196 Tryz.f196 := ⟨Tryz.func196, by kernel_rfl, .inl (by kernel_rfl)⟩
theorem fnk197 : FnRow Tryz.prog 197 Tryz.f197 := ⟨Tryz.func197, by kernel_rfl, .inl (by kernel_rfl)⟩
theorem fnk198 : FnRow Tryz.prog 198 Tryz.f198 := ⟨Tryz.func198, by kernel_rfl, .inl (by kernel_rfl)⟩
theorem fnk199 : FnRow Tryz.prog 199 Tryz.f199 := ⟨Tryz.func199, by kernel_rfl, .inl (by kernel_rfl)⟩
theorem fnk200 : FnRow Tryz.prog 200 Tryz.f200 := ⟨Tryz.func200, by kernel_rfl, .inl (by kernel_rfl)⟩
theorem fnk201 : FnRow Tryz.prog 201 Tryz.f201 := ⟨Tryz.func201, by kernel_rfl, .inl (by kernel_rfl)⟩
theorem fnk202 : FnRow Tryz.prog 202 Tryz.f202 := ⟨Tryz.func202, by kernel_rfl, .inl (by kernel_rfl)⟩
theorem fnk203 : FnRow Tryz.prog 203 Tryz.f203 := ⟨Tryz.func203, by kernel_rfl, .inl (by kernel_rfl)⟩
theorem fnk204 : FnRow Tryz.prog 204 Tryz.f204 := ⟨Tryz.func204, by kernel_rfl, .inl (by kernel_rfl)⟩
theorem fnk205 : FnRow Tryz.prog 205 Tryz.f205 := ⟨Tryz.func205, by kernel_rfl, .inl (by kernel_rfl)⟩
theorem fnk206 : FnRow Tryz.prog 206 Tryz.f206 := ⟨Tryz.func206, by kernel_rfl, .inl (by kernel_rfl)⟩
theorem fnk207 : FnRow Tryz.prog 207 Tryz.f207 := ⟨Tryz.func207, by kernel_rfl, .inl (by kernel_rfl)⟩
theorem fnk208 : FnRow Tryz.prog 208 Tryz.f208 := ⟨Tryz.func208, by kernel_rfl, .inl (by kernel_rfl)⟩
theorem fnk209 : FnRow Tryz.prog 209 Tryz.f209 := ⟨Tryz.func209, by kernel_rfl, .inl (by kernel_rfl)⟩
theorem fnk210 : FnRow Tryz.prog 210 Tryz.f210 := ⟨Tryz.func210, by kernel_rfl, .inl (by kernel_rfl)⟩
theorem fnk211 : FnRow Tryz.prog 211 Tryz.f211 := ⟨Tryz.func211, by kernel_rfl, .inl (by kernel_rfl)⟩
theorem fnk212 : FnRow Tryz.prog 212 Tryz.f212 := ⟨Tryz.func212, by kernel_rfl, .inl (by kernel_rfl)⟩
theorem fnk213 : FnRow Tryz.prog 213 Tryz.f213 := ⟨Tryz.func213, by kernel_rfl, .inl (by kernel_rfl)⟩
theorem fnk214 : FnRow Tryz.prog 214 Tryz.f214 := ⟨Tryz.func214, by kernel_rfl, .inl (by kernel_rfl)⟩
theorem fnk215 : FnRow Tryz.prog 215 Tryz.f215 := ⟨Tryz.func215, by kernel_rfl, .inl (by kernel_rfl)⟩
theorem fnk216 : FnRow Tryz.prog 216 Tryz.f216 := ⟨Tryz.func216, by kernel_rfl, .inl (by kernel_rfl)⟩
theorem fnk217 : FnRow Tryz.prog 217 Tryz.f217 := ⟨Tryz.func217, by kernel_rfl, .inl (by kernel_rfl)⟩
theorem fnk218 : FnRow Tryz.prog 218 Tryz.f218 := ⟨Tryz.func218, by kernel_rfl, .inl (by kernel_rfl)⟩
theorem fnk219 : FnRow Tryz.prog 219 Tryz.f219 := ⟨Tryz.func219, by kernel_rfl, .inl (by kernel_rfl)⟩
theorem fnk220 : FnRow Tryz.prog 220 Tryz.f220 := ⟨Tryz.func220, by kernel_rfl, .inl (by kernel_rfl)⟩
theorem fnk221 : FnRow Tryz.prog 221 Tryz.f221 := ⟨Tryz.func221, by kernel_rfl, .inl (by kernel_rfl)⟩
theorem fnk222 : FnRow Tryz.prog 222 Tryz.f222 := ⟨Tryz.func222, by kernel_rfl, .inl (by kernel_rfl)⟩
theorem fnk223 : FnRow Tryz.prog 223 Tryz.f223 := ⟨Tryz.func223, by kernel_rfl, .inl (by kernel_rfl)⟩
theorem fnk224 : FnRow Tryz.prog 224 Tryz.f224 := ⟨Tryz.func224, by kernel_rfl, .inl (by kernel_rfl)⟩
theorem fnk225 : FnRow Tryz.prog 225 Tryz.f225 := ⟨Tryz.func225, by kernel_rfl, .inl (by kernel_rfl)⟩
theorem fnk226 : FnRow Tryz.prog 226 Tryz.f226 := ⟨Tryz.func226, by kernel_rfl, .inl (by kernel_rfl)⟩
theorem fnk227 : FnRow Tryz.prog 227 Tryz.f227 := ⟨Tryz.func227, by kernel_rfl, .inl (by kernel_rfl)⟩
theorem fnk228 : FnRow Tryz.prog 228 Tryz.f228 := ⟨Tryz.func228, by kernel_rfl, .inl (by kernel_rfl)⟩
theorem fnk229 : FnRow Tryz.prog 229 Tryz.f229 := ⟨Tryz.func229, by kernel_rfl, .inl (by kernel_rfl)⟩
theorem fnk230 : FnRow Tryz.prog 230 Tryz.f230 := ⟨Tryz.func230, by kernel_rfl, .inl (by kernel_rfl)⟩
theorem fnk231 : FnRow Tryz.prog 231 Tryz.f231 := ⟨Tryz.func231, by kernel_rfl, .inl (by kernel_rfl)⟩
theorem fnk232 : FnRow Tryz.prog 232 Tryz.f232 := ⟨Tryz.func232, by kernel_rfl, .inl (by kernel_rfl)⟩
theorem fnk233 : FnRow Tryz.prog 233 Tryz.f233 := ⟨Tryz.func233, by kernel_rfl, .inl (by kernel_rfl)⟩
theorem fnk234 : FnRow Tryz.prog 234 Tryz.f234 := ⟨Tryz.func234, by kernel_rfl, .inl (by kernel_rfl)⟩
theorem fnk235 : FnRow Tryz.prog 235 Tryz.f235 := ⟨Tryz.func235, by kernel_rfl, .inl (by kernel_rfl)⟩
theorem fnk236 : FnRow Tryz.prog 236 Tryz.f236 := ⟨Tryz.func236, by kernel_rfl, .inl (by kernel_rfl)⟩
theorem fnk237 : FnRow Tryz.prog 237 Tryz.f237 := ⟨Tryz.func237, by kernel_rfl, .inl (by kernel_rfl)⟩
theorem fnk238 : FnRow Tryz.prog 238 Tryz.f238 := ⟨Tryz.func238, by kernel_rfl, .inl (by kernel_rfl)⟩
theorem fnk239 : FnRow Tryz.prog 239 Tryz.f239 := ⟨Tryz.func239, by kernel_rfl, .inl (by kernel_rfl)⟩
theorem fnk240 : FnRow Tryz.prog 240 Tryz.f240 := ⟨Tryz.func240, by kernel_rfl, .inl (by kernel_rfl)⟩
theorem fnk241 : FnRow Tryz.prog 241 Tryz.f241 := ⟨Tryz.func241, by kernel_rfl, .inl (by kernel_rfl)⟩
theorem fnk242 : FnRow Tryz.prog 242 Tryz.f242 := ⟨Tryz.func242, by kernel_rfl, .inl (by kernel_rfl)⟩
theorem fnk243 : FnRow Tryz.prog 243 Tryz.f243 := ⟨Tryz.func243, by kernel_rfl, .inl (by kernel_rfl)⟩
theorem fnk244 : FnRow Tryz.prog 244 Tryz.f244 := ⟨Tryz.func244, by kernel_rfl, .inl (by kernel_rfl)⟩
theorem fnk245 : FnRow Tryz.prog 245 Tryz.f245 := ⟨Tryz.func245, by kernel_rfl, .inl (by kernel_rfl)⟩
theorem fnk246 : FnRow Tryz.prog 246 Tryz.f246 := ⟨Tryz.func246, by kernel_rfl, .inl (by kernel_rfl)⟩
theorem fnk247 : FnRow Tryz.prog 247 Tryz.f247 := ⟨Tryz.func247, by kernel_rfl, .inl (by kernel_rfl)⟩
theorem fnk248 : FnRow Tryz.prog 248 Tryz.f248 := ⟨Tryz.func248, by kernel_rfl, .inl (by kernel_rfl)⟩
theorem fnk249 : FnRow Tryz.prog 249 Tryz.f249 := ⟨Tryz.func249, by kernel_rfl, .inl (by kernel_rfl)⟩
theorem fnk250 : FnRow Tryz.prog 250 Tryz.f250 := ⟨Tryz.func250, by kernel_rfl, .inl (by kernel_rfl)⟩
theorem fnk251 : FnRow Tryz.prog 251 Tryz.f251 := ⟨Tryz.func251, by kernel_rfl, .inl (by kernel_rfl)⟩
theorem fnk252 : FnRow Tryz.prog 252 Tryz.f252 := ⟨Tryz.func252, by kernel_rfl, .inl (by kernel_rfl)⟩
theorem fnk253 : FnRow Tryz.prog 253 Tryz.f253 := ⟨Tryz.func253, by kernel_rfl, .inl (by kernel_rfl)⟩

end Go.Proofs.YtkjailapincfbabGreatDoor
