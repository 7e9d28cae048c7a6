/- The tables of a program fit it. -/
import Derived.Test.YtjeenahnkcgfcaaGreatDoorSim24
set_option linter.unusedVariables false
namespace Go.Sim

noncomputable def plainB (fn : Func) : Bool := fn.body.isSome || !(fn.name == "internal/bytealg.abigen_runtime_cmpstring")
def FnRow (P : Program) (k : Nat) (fn : Func) : Prop := P.funcs[k]? = some fn ∧ funOk fn = true ∧ (plainB fn = true ∨ (Extern.findNext fn = none ∧ Extern.find fn = some Extern.BytealgCompare.compare))
def TyRow (P : Program) (t : Nat) (i : TI) : Prop := tiOf P t = some i

structure TabOK (P : Program) (ty : Tr TI) (fn : Tr Func) : Prop where
  ty : TrAll (TyRow P) ty id
  fn : TrAll (FnRow P) fn id
  mix : P.follows .mixedOrders = true

variable {P : Program} {ty : Tr TI} {fn : Tr Func}

theorem TabOK.envS (h : TabOK P ty fn) {lt eq : List (SI × SI × Bool)} {done : List (Nat × SV)} {join : List Nat} {tiny : List (Nat × Nat)} {memo : List Mo} {stop : List Nat} (hd : ∀ k v, findL k done = some v → DoneOK P k v) (ht : ∀ k t, tinyT k t tiny = true → TinyOK P k t) (hm : ∀ m ∈ memo, MoOK ⟨P, ty, fn, lt, eq, done, join, tiny, memo, stop⟩ m) : EnvS ⟨P, ty, fn, lt, eq, done, join, tiny, memo, stop⟩ := by
  refine ⟨fun k fn hk => ?_, fun k fn hk hb hn => ?_, h.mix, fun k v hk => hd k v hk, ht, hm⟩
  · obtain ⟨h1, h2, _⟩ := TrAll.get h.fn k fn hk
    exact ⟨h1, h2⟩
  · obtain ⟨_, _, h3⟩ := TrAll.get h.fn k fn hk
    rcases h3 with h3 | h3
    · unfold plainB at h3
      rw [hb, hn] at h3
      cases h3
    · exact h3
theorem TabOK.envOK (h : TabOK P ty fn) {lt eq : List (SI × SI × Bool)} {done : List (Nat × SV)} {join : List Nat} {tiny : List (Nat × Nat)} {memo : List Mo} {stop : List Nat} {η : Nat → Int} (hlt : ∀ a b r, (a, b, r) ∈ lt → decide (a.ev η < b.ev η) = r) (heq : ∀ a b r, (a, b, r) ∈ eq → decide (a.ev η = b.ev η) = r) :
    EnvOK ⟨P, ty, fn, lt, eq, done, join, tiny, memo, stop⟩ (gh0 P η) :=
  ⟨fun t i hi => tiOf_spec (TrAll.get h.ty t i hi), fun f x hx => (TrAll.get h.fn f x hx).1, hlt, heq, h.mix, fun _ => rfl⟩

/-- Of a known call nothing but the facts on the numbers is asked. -/
theorem MoOK.facts {lt eq lt' eq' : List (SI × SI × Bool)} {done done' : List (Nat × SV)} {join join' : List Nat} {tiny tiny' : List (Nat × Nat)} {memo memo' : List Mo} {stop stop' : List Nat} {m : Mo} (h : MoOK ⟨P, ty, fn, lt, eq, done, join, tiny, memo, stop⟩ m) (hl : ∀ x ∈ lt, x ∈ lt') (he : ∀ x ∈ eq, x ∈ eq') :
    MoOK ⟨P, ty, fn, lt', eq', done', join', tiny', memo', stop'⟩ m :=
  h.mono rfl fun g k => ⟨k.ty, k.fn, fun a b r hm => k.lt a b r (hl _ hm), fun a b r hm => k.eq a b r (he _ hm), k.mix, k.sz⟩

/-- What a run returns, if it is a bool. -/
noncomputable def resB (o : Out) : Option Bool := match o with | .ress [⟨false, .bool b, _⟩] => some b | _ => none
theorem resB_some {o : Out} {b : Bool} (h : resB o = some b) : ∃ h', o = .res (.bool b) h' := by
  unfold resB at h
  split at h
  · cases h; exact ⟨_, rfl⟩
  · cases h
/-- Why a run fails (for the writer of a proof). -/
noncomputable def why (o : Out) : String := match o with | .ress [⟨false, .bool b, _⟩] => (match b with | true => "true" | false => "false") | .ress [_] => "res" | .ress _ => "ress" | .fail s => s | _ => "other"

end Go.Sim
