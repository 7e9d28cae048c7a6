/- The table of functions fits the program, part 3; written by a program (gentab.py). -/
import Derived.Test.YtjeenahnkcgfcaaGreatDoorTab
import Derived.KernelRfl
set_option maxRecDepth 1000000
set_option linter.all false
namespace Go.Proofs.YtjeenahnkcgfcaaGreatDoor
open Go.Sim

theorem fnk303 : FnRow Tryz.prog 303 Tryz.f303 := ⟨Tryz.func303, by kernel_rfl, .inl (by kernel_rfl)⟩
theorem fnk304 : FnRow Tryz.prog 304 Tryz.f304 := ⟨Tryz.func304, by kernel_rfl, .inl (by kernel_rfl)⟩
theorem fnk305 : FnRow Tryz.prog 305 Tryz.f305 := ⟨Tryz.func305, by kernel_rfl, .inl (by kernel_rfl)⟩
theorem fnk306 : FnRow Tryz.prog 306 Tryz.f306 := ⟨Tryz.func306, by kernel_rfl, .inl (by kernel_rfl)⟩
theorem fnk307 : FnRow Tryz.prog 307 Tryz.f307 := ⟨Tryz.func307, by kernel_rfl, .inl (by kernel_rfl)⟩
theorem fnk308 : FnRow Tryz.prog 308 Tryz.f308 := ⟨Tryz.func308, by kernel_rfl, .inl (by kernel_rfl)⟩
theorem fnk309 : FnRow Tryz.prog 309 Tryz.f309 := ⟨Tryz.func309, by kernel_rfl, .inl (by kernel_rfl)⟩
theorem fnk310 : FnRow Tryz.prog 310 Tryz.f310 := ⟨Tryz.func310, by kernel_rfl, .inl (by kernel_rfl)⟩
theorem fnk311 : FnRow Tryz.prog 311 Tryz.f311 := ⟨Tryz.func311, by kernel_rfl, .inl (by kernel_rfl)⟩
theorem fnk312 : FnRow Tryz.prog 312 Tryz.f312 := ⟨Tryz.func312, by kernel_rfl, .inl (by kernel_rfl)⟩
theorem fnk313 : FnRow Tryz.prog 313 Tryz.f313 := ⟨Tryz.func313, by kernel_rfl, .inl (by kernel_rfl)⟩
theorem fnk314 : FnRow Tryz.prog 314 Tryz.f314 := ⟨Tryz.func314, by kernel_rfl, .inl (by kernel_rfl)⟩
theorem fnk315 : FnRow Tryz.prog 315 Tryz.f315 := ⟨Tryz.func315, by kernel_rfl, .inl (by kernel_rfl)⟩
theorem fnk316 : FnRow Tryz.prog 316 Tryz.f316 := ⟨Tryz.func316, by kernel_rfl, .inl (by kernel_rfl)⟩
theorem fnk317 : FnRow Tryz.prog 317 Tryz.f317 := ⟨Tryz.func317, by kernel_rfl, .inl (by kernel_rfl)⟩
theorem fnk318 : FnRow Tryz.prog 318 Tryz.f318 := ⟨Tryz.func318, by kernel_rfl, .inl (by kernel_rfl)⟩
theorem fnk319 : FnRow Tryz.prog 319 Tryz.f319 := ⟨Tryz.func319, by kernel_rfl, .inl (by kernel_rfl)⟩
theorem fnk320 : FnRow Tryz.prog 320 Tryz.f320 := ⟨Tryz.func320, by kernel_rfl, .inl (by kernel_rfl)⟩
theorem fnk321 : FnRow Tryz.prog 321 Tryz.f321 := ⟨Tryz.func321, by kernel_rfl, .inl (by kernel_rfl)⟩
theorem fnk322 : FnRow Tryz.prog 322 Tryz.f322 := ⟨Tryz.func322, by kernel_rfl, .inl (by kernel_rfl)⟩
theorem fnk323 : FnRow Tryz.prog 323 Tryz.f323 := ⟨Tryz.func323, by kernel_rfl, .inl (by kernel_rfl)⟩
theorem fnk324 : FnRow Tryz.prog 324 Tryz.f324 := ⟨Tryz.func324, by kernel_rfl, .inl (by kernel_rfl)⟩
theorem fnk325 : FnRow Tryz.prog 325 Tryz.f325 := ⟨Tryz.func325, by kernel_rfl, .inl (by kernel_rfl)⟩
theorem fnk326 : FnRow Tryz.prog 326 Tryz.f326 := ⟨Tryz.func326, by kernel_rfl, .inl (by kernel_rfl)⟩
theorem fnk327 : FnRow Tryz.prog 327 Tryz.f327 := ⟨Tryz.func327, by kernel_rfl, .inl (by kernel_rfl)⟩
theorem fnk328 : FnRow Tryz.prog 328 Tryz.f328 := ⟨Tryz.func328, by kernel_rfl, .inl (by kernel_rfl)⟩
theorem fnk329 : FnRow Tryz.prog 329 Tryz.f329 := ⟨Tryz.func329, by kernel_rfl, .inl (by kernel_rfl)⟩
theorem fnk330 : FnRow Tryz.prog 330 Tryz.f330 := ⟨Tryz.func330, by kernel_rfl, .inl (by kernel_rfl)⟩
theorem fnk331 : FnRow Tryz.prog 331 Tryz.f331 := ⟨Tryz.func331, by kernel_rfl, .inl (by kernel_rfl)⟩
theorem fnk332 : FnRow Tryz.prog 332 Tryz.f332 := ⟨Tryz.func332, by kernel_rfl, .inl (by kernel_rfl)⟩
theorem fnk333 : FnRow Tryz.prog 333 Tryz.f333 := ⟨Tryz.func333, by kernel_rfl, .inl (by kernel_rfl)⟩
theorem fnk334 : FnRow Tryz.prog 334 Tryz.f334 := ⟨Tryz.func334, by kernel_rfl, .inl (by kernel_rfl)⟩
theorem fnk335 : FnRow Tryz.prog 335 Tryz.f335 := ⟨Tryz.func335, by kernel_rfl, .inl (by kernel_rfl)⟩
theorem fnk336 : FnRow Tryz.prog 336 Tryz.f336 := ⟨Tryz.func336, by kernel_rfl, .inl (by kernel_rfl)⟩
theorem fnk337 : FnRow Tryz.prog 337 Tryz.f337 := ⟨Tryz.func337, by kernel_rfl, .inl (by kernel_rfl)⟩
theorem fnk338 : FnRow Tryz.prog 338 Tryz.f338 := ⟨Tryz.func338, by kernel_rfl, .inl (by kernel_rfl)⟩
theorem fnk339 : FnRow Tryz.prog 339 Tryz.f339 := ⟨Tryz.func339, by kernel_rfl, .inl (by kernel_rfl)⟩
theorem fnk340 : FnRow Tryz.prog 340 Tryz.f340 := ⟨Tryz.func340, by kernel_rfl, .inl (by kernel_rfl)⟩
theorem fnk341 : FnRow Tryz.prog 341 Tryz.f341 := ⟨Tryz.func341, by kernel_rfl, .inl (by kernel_rfl)⟩
theorem fnk342 : FnRow Tryz.prog 342 Tryz.f342 := ⟨Tryz.func342, by kernel_rfl, .inl (by kernel_rfl)⟩
theorem fnk343 : FnRow Tryz.prog 343 Tryz.f343 := ⟨Tryz.func343, by kernel_rfl, .inl (by kernel_rfl)⟩
theorem fnk344 : FnRow Tryz.prog 344 Tryz.f344 := ⟨Tryz.func344, by kernel_rfl, .inl (by kernel_rfl)⟩
theorem fnk345 : FnRow Tryz.prog 345 Tryz.f345 := ⟨Tryz.func345, by kernel_rfl, .inl (by kernel_rfl)⟩
theorem fnk346 : FnRow Tryz.prog 346 Tryz.f346 := ⟨Tryz.func346, by kernel_rfl, .inl (by kernel_rfl)⟩
theorem fnk347 : FnRow Tryz.prog 347 Tryz.f347 := ⟨Tryz.func347, by kernel_rfl, .inl (by kernel_rfl)⟩
theorem fnk348 : FnRow Tryz.prog 348 Tryz.f348 := ⟨Tryz.func348, by kernel_rfl, .inl (by kernel_rfl)⟩
theorem fnk349 : FnRow Tryz.prog 349 Tryz.f349 := ⟨Tryz.func349, by kernel_rfl, .inl (by kernel_rfl)⟩
theorem fnk350 : FnRow Tryz.prog 350 Tryz.f350 := ⟨Tryz.func350, by kernel_rfl, .inl (by kernel_rfl)⟩
theorem fnk351 : FnRow Tryz.prog 351 Tryz.f351 := ⟨Tryz.func351, by kernel_rfl, .inl (by kernel_rfl)⟩
theorem fnk352 : FnRow Tryz.prog 352 Tryz.f352 := ⟨Tryz.func352, by kernel_rfl, .inl (by kernel_rfl)⟩
theorem fnk353 : FnRow Tryz.prog 353 Tryz.f353 := ⟨Tryz.func353, by kernel_rfl, .inl (by kernel_rfl)⟩
theorem fnk354 : FnRow Tryz.prog 354 Tryz.f354 := ⟨Tryz.func354, by kernel_rfl, .inl (by kernel_rfl)⟩
theorem fnk355 : FnRow Tryz.prog 355 Tryz.f355 := ⟨Tryz.func355, by kernel_rfl, .inl (by kernel_rfl)⟩
theorem fnk356 : FnRow Tryz.prog 356 Tryz.f356 := ⟨Tryz.func356, by kernel_rfl, .inl (by kernel_rfl)⟩
theorem fnk357 : FnRow Tryz.prog 357 Tryz.f357 := ⟨Tryz.func357, by kernel_rfl, .inl (by kernel_rfl)⟩
theorem fnk358 : FnRow Tryz.prog 358 Tryz.f358 := ⟨Tryz.func358, by kernel_rfl, .inl (by kernel_rfl)⟩
theorem fnk359 : FnRow Tryz.prog 359 Tryz.f359 := ⟨Tryz.func359, by kernel_rfl, .inl (by kernel_rfl)⟩
theorem fnk360 : FnRow Tryz.prog 360 Tryz.f360 := ⟨Tryz.func360, by kernel_rfl, .inl (by kernel_rfl)⟩
theorem fnk361 : FnRow Tryz.prog 361 Tryz.f361 := ⟨Tryz.func361, by kernel_rfl, .inl (by kernel_rfl)⟩
theorem fnk362 : FnRow Tryz.prog 362 Tryz.f362 := ⟨Tryz.func362, by kernel_rfl, .inl (by kernel_rfl)⟩
theorem fnk363 : FnRow Tryz.prog 363 Tryz.f363 := ⟨Tryz.func363, by kernel_rfl, .inl (by kernel_rfl)⟩
theorem fnk364 : FnRow Tryz.prog 364 Tryz.f364 := ⟨Tryz.func364, by kernel_rfl, .inl (by kernel_rfl)⟩
theorem fnk365 : FnRow Tryz.prog 365 Tryz.f365 := ⟨Tryz.func365, by kernel_rfl, .inl (by kernel_rfl)⟩
theorem fnk366 : FnRow Tryz.prog 366 Tryz.f366 := ⟨Tryz.func366, by kernel_rfl, .inl (by kernel_rfl)⟩
theorem fnk367 : FnRow Tryz.prog 367 Tryz.f367 := ⟨Tryz.func367, by kernel_rfl, .inl (by kernel_rfl)⟩
theorem fnk368 : FnRow Tryz.prog 368 Tryz.f368 := ⟨Tryz.func368, by kernel_rfl, .inl (by kernel_rfl)⟩
theorem fnk369 : FnRow Tryz.prog 369 Tryz.f369 := ⟨Tryz.func369, by kernel_rfl, .inl (by kernel_rfl)⟩
theorem fnk370 : FnRow Tryz.prog 370 Tryz.f370 := ⟨Tryz.func370, by kernel_rfl, .inl (by kernel_rfl)⟩
theorem fnk371 : FnRow Tryz.prog 371 Tryz.f371 := ⟨Tryz.func371, by kernel_rfl, .inl (by kernel_rfl)⟩
theorem fnk372 : FnRow Tryz.prog 372 Tryz.f372 := ⟨Tryz.func372, by kernel_rfl, .inl (by kernel_rfl)⟩
theorem fnk373 : FnRow Tryz.prog 373 Tryz.f373 := ⟨Tryz.func373, by kernel_rfl, .inl (by kernel_rfl)⟩
theorem fnk374 : FnRow Tryz.prog 374 Tryz.f374 := ⟨Tryz.func374, by kernel_rfl, .inl (by kernel_rfl)⟩
theorem fnk375 : FnRow Tryz.prog 375 Tryz.f375 := ⟨Tryz.func375, by kernel_rfl, .inl (by kernel_rfl)⟩
theorem fnk376 : FnRow Tryz.prog 376 Tryz.f376 := ⟨Tryz.func376, by kernel_rfl, .inl (by kernel_rfl)⟩
theorem fnk377 : FnRow Tryz.prog 377 Tryz.f377 := ⟨Tryz.func377, by kernel_rfl, .inl (by kernel_rfl)⟩
theorem fnk378 : FnRow Tryz.prog 378 Tryz.f378 := ⟨Tryz.func378, by kernel_rfl, .inl (by kernel_rfl)⟩
theorem fnk379 : FnRow Tryz.prog 379 Tryz.f379 := ⟨Tryz.func379, by kernel_rfl, .inl (by kernel_rfl)⟩
theorem fnk380 : FnRow Tryz.prog 380 Tryz.f380 := ⟨Tryz.func380, by kernel_rfl, .inl (by kernel_rfl)⟩
theorem fnk381 : FnRow Tryz.prog 381 Tryz.f381 := ⟨Tryz.func381, by kernel_rfl, .inl (by kernel_rfl)⟩
theorem fnk382 : FnRow Tryz.prog 382 Tryz.f382 := ⟨Tryz.func382, by kernel_rfl, .inl (by kernel_rfl)⟩
theorem fnk383 : FnRow Tryz.prog 383 Tryz.f383 := ⟨Tryz.func383, by kernel_rfl, .inl (by kernel_rfl)⟩
theorem fnk384 : FnRow Tryz.prog 384 Tryz.f384 := ⟨Tryz.func384, by kernel_rfl, .inl (by kernel_rfl)⟩
theorem fnk385 : FnRow Tryz.prog 385 Tryz.f385 := ⟨Tryz.func385, by kernel_rfl, .inl (by kernel_rfl)⟩
theorem fnk386 : FnRow Tryz.prog 386 Tryz.f386 := ⟨Tryz.func386, by kernel_rfl, .inl (by kernel_rfl)⟩
theorem fnk387 : FnRow Tryz.prog 387 Tryz.f387 := ⟨Tryz.func387, by kernel_rfl, .inl (by kernel_rfl)⟩
theorem fnk388 : FnRow Tryz.prog 388 Tryz.f388 := ⟨Tryz.func388, by kernel_rfl, .inl (by kernel_rfl)⟩
theorem fnk389 : FnRow Tryz.prog 389 Tryz.f389 := ⟨Tryz.func389, by kernel_rfl, .inl (by kernel_rfl)⟩
theorem fnk390 : FnRow Tryz.prog 390 Tryz.f390 := ⟨Tryz.func390, by kernel_rfl, .inl (by kernel_rfl)⟩
theorem fnk391 : FnRow Tryz.prog 391 Tryz.f391 := ⟨Tryz.func391, by kernel_rfl, .inl (by kernel_rfl)⟩
theorem fnk392 : FnRow Tryz.prog 392 Tryz.f392 := ⟨Tryz.func392, by kernel_rfl, .inl (by kernel_rfl)⟩
theorem fnk393 : FnRow Tryz.prog 393 Tryz.f393 := ⟨Tryz.func393, by kernel_rfl, .inl (by kernel_rfl)⟩
theorem fnk394 : FnRow Tryz.prog 394 Tryz.f394 := ⟨Tryz.func394, by kernel_rfl, .inl (by kernel_rfl)⟩
theorem fnk395 : FnRow Tryz.prog 395 Tryz.f395 := ⟨Tryz.func395, by kernel_rfl, .inl (by kernel_rfl)⟩
theorem fnk396 : FnRow Tryz.prog 396 Tryz.f396 := ⟨Tryz.func396, by kernel_rfl, .inl (by kernel_rfl)⟩
theorem fnk397 : FnRow Tryz.prog 397 Tryz.f397 := ⟨Tryz.func397, by kernel_rfl, .inl (by kernel_rfl)⟩
theorem fnk398 : FnRow Tryz.prog 398 Tryz.f398 := ⟨Tryz.func398, by kernel_rfl, .inl (by kernel_rfl)⟩
theorem fnk399 : FnRow Tryz.prog 399 Tryz.f399 := ⟨Tryz.func399, by kernel_rfl, .inl (by kernel_rfl)⟩
theorem fnk400 : FnRow Tryz.prog 400 Tryz.f400 := ⟨Tryz.func400, by kernel_rfl, .inl (by kernel_rfl)⟩

end Go.Proofs.YtjeenahnkcgfcaaGreatDoor
