/- PredicateHolds: the given statement, out of the plain law and the walk. Condition: what the law reads is of bulk at most 1048576. -/
import Derived.Test.YtalbakjfbgkjjaaClose2
import Derived.Test.YtalbakjfbgkjjaaRd
import Derived.Test.YtalbakjfbgkjjaaTys
import Derived.Test.YtalbakjfbgkjjaaPlL4
set_option linter.all false
set_option maxRecDepth 100000
namespace Go.Proofs.Ytalbakjfbgkjjaa.law4
open Go.Abs Go.RowKit Go.ChangeShapes Go.WideShapes Go.ChangeAt

theorem own : ownKnob Try.prog.godebug = none := by kernel_rfl
theorem laid : laidOutB Try.prog = true := by kernel_rfl

theorem contract (H : Type) (enc : TypeId × Value → H) (W : World) (base : Nat) (args : Array Value) (ds gs : List (DataW H)) (before : List MemPlace)
    (hval : ∀ (j : Nat) t v, Try.f4.params[j]? = some t → args[j]? = some v → Value.okWide Try.prog W .any base t v)
    (hW : DataW.Whole enc Try.prog Try.f4.params.toList Rows.predicateHoldsSpec.vars false W args.toList ds gs before) (hk : Rows.uptoSmall H (ds ++ gs) = true) :
    Calls Try.prog 4 args W fun e W' => ∃ v, e = .returned v ∧ Rows.predicateHoldsSpec.post enc Try.prog Try.f4 false true false false W args v W' := by
  refine law_contract (ann := ann) (tb := 4) laid (by kernel_rfl) rfl Try.underlying4 rfl (fun ds hd => ?_) hW ?_
  · match ds, hd with
    | [d0, d1, d2, d3], _ => rfl
  · obtain ⟨p, q, hA, hV, _⟩ := hW
    obtain ⟨rfl, _⟩ := trodVars_none hV
    rw [Try.params4] at hA hval
    obtain ⟨v0, vs0, d0, ds0, p0, q0, e0, rfl, rfl, h0, r0⟩ := trodAll_cons hA
    obtain ⟨v1, vs1, d1, ds1, p1, q1, e1, rfl, rfl, h1, r1⟩ := trodAll_cons r0
    obtain ⟨v2, vs2, d2, ds2, p2, q2, e2, rfl, rfl, h2, r2⟩ := trodAll_cons r1
    obtain ⟨v3, vs3, d3, ds3, p3, q3, e3, rfl, rfl, h3, r3⟩ := trodAll_cons r2
    obtain ⟨rfl, rfl, rfl⟩ := trodAll_nil r3
    obtain rfl : args = #[v0, v1, v2, v3] := by cases args; simp_all
    have hk := of_decide_eq_true hk
    simp only [List.append_nil, Rows.uptoBulkAll] at hk
    obtain ⟨x0, n0, a0, b0, c0⟩ := arg_one tiles (of_decide_eq_true (by kernel_rfl)) h0 (one_of_wide Try.underlying22 (hval 0 22 v0 rfl rfl))
    have o0 := typed_ok _ _ _ b0
    obtain ⟨y0, g0⟩ := ty22 _ _ b0
    obtain rfl := (List.cons.inj g0).1
    obtain ⟨z1, w1⟩ := agg_of_wide Try.underlying29 (hval 1 29 v1 rfl rfl)
    obtain ⟨x1, n1, a1, b1, c1⟩ := arg_agg tiles (of_decide_eq_true (by kernel_rfl)) h1 w1
    have o1 := typed_ok _ _ _ b1
    obtain ⟨y1, rfl⟩ := ty29 _ _ b1
    obtain ⟨x2, n2, a2, b2, c2⟩ := arg_one tiles (of_decide_eq_true (by kernel_rfl)) h2 (one_of_wide Try.underlying41 (hval 2 41 v2 rfl rfl))
    have o2 := typed_ok _ _ _ b2
    obtain ⟨y2, g2⟩ := ty41 _ _ b2
    obtain rfl := (List.cons.inj g2).1
    obtain ⟨x3, n3, a3, b3, c3⟩ := arg_one tiles (of_decide_eq_true (by kernel_rfl)) h3 (one_of_wide Try.underlying40 (hval 3 40 v3 rfl rfl))
    have o3 := typed_ok _ _ _ b3
    obtain ⟨y3, g3⟩ := ty40 _ _ b3
    obtain rfl := (List.cons.inj g3).1
    exact ⟨_, ev_call (by kernel_rfl) (plain4 y0 y1 y2 y3 o0 o1 o2 o3 (by omega)).2, ⟨a0, rfl⟩, ⟨a1, rfl⟩, ⟨a2, rfl⟩, ⟨a3, rfl⟩, trivial⟩

theorem lifted (os : Os) (started : os.Started) (H : Type) (enc : TypeId × Value → H) (F : Stop.Interp) :
    ReturnsInHanded {} Try.checked os 4 .any ((Rows.OpenSpec.upto Rows.predicateHoldsSpec).pre6 enc Try.prog Try.f4 Rows.predicateHoldsUptoRow.domain false) (((Rows.OpenSpec.upto Rows.predicateHoldsSpec).at F).post enc Try.prog Try.f4 false true false false) := by
  refine returnsInHanded_of_cond (C := Try.checked) (s := Rows.OpenSpec.upto Rows.predicateHoldsSpec) (k := Rows.uptoSmall) rfl own started (by kernel_rfl) Try.func4
    (OpenSpec.witness (enc := enc) (C := Try.checked) (s := Rows.OpenSpec.upto Rows.predicateHoldsSpec) (k := Rows.uptoSmall) rfl false ⟨#[], #[.slice none 0 0, .agg #[.int .i64 0, .int .i64 0, .int .i64 0, .int .i64 0, .int .i64 0, .int .i64 0, .string ByteArray.empty, .int .i64 0, .int .i64 0, .int .i64 0, .int .i64 0, .string ByteArray.empty, .slice none 0 0], .slice none 0 0, .slice none 0 0], []⟩ 8 (by kernel_rfl) (by kernel_rfl) (by kernel_rfl)
      (x := ([.nil, .agg [.lit (.int .i64 0), .lit (.int .i64 0), .agg [.lit (.int .i64 0), .lit (.int .i64 0), .agg [.lit (.int .i64 0), .lit (.int .i64 0), .lit (.string [])]], .agg [.lit (.int .i64 0), .lit (.int .i64 0), .agg [.lit (.int .i64 0), .lit (.int .i64 0), .lit (.string [])]], .nil], .nil, .nil], [], [])) (by kernel_rfl) rfl (by kernel_rfl)) ?_
  intro W base args ds gs before hval hW _ hk _
  exact contract H enc W base args ds gs before hval hW hk

theorem over : Rows.predicateHoldsUptoRow.holds Try.pinned (Rows.OpenSpec.upto Rows.predicateHoldsSpec) :=
  OpenClaim.holds_of_cond 4 Try.f4 rfl rfl rfl rfl rfl rfl rfl ⟨rfl, rfl, rfl, rfl, rfl⟩ rfl rfl rfl rfl rfl (by kernel_rfl) Try.func4 (by kernel_rfl)
    (of_decide_eq_true (by kernel_rfl)) (by unfold Func.isWrapper; first | (rw [if_pos (by decide +kernel)]; kernel_rfl) | (rw [if_neg (by decide +kernel)]; exact ⟨rfl, rfl⟩))
    (fun os started H enc _ F => lifted os started H enc F)

theorem proved : Rows.PredicateHoldsUptoSaid := over
end Go.Proofs.Ytalbakjfbgkjjaa.law4
