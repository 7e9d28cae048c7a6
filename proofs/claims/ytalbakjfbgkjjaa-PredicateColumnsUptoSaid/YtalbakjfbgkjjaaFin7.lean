/- PredicateColumns: the program answers that the columns of any predicate are those of the reference, and that no other cell matters. Condition: what the law reads is of bulk at most 1048576. -/
import Derived.Test.YtalbakjfbgkjjaaClose2
import Derived.Test.YtalbakjfbgkjjaaRd
import Derived.Test.YtalbakjfbgkjjaaTys
import Derived.Test.YtalbakjfbgkjjaaPlL7
set_option linter.all false
set_option maxRecDepth 100000
namespace Go.Proofs.Ytalbakjfbgkjjaa.law7
open Go.Abs Go.RowKit Go.ChangeShapes Go.WideShapes Go.ChangeAt

theorem own : ownKnob Try.prog.godebug = none := by kernel_rfl
theorem laid : laidOutB Try.prog = true := by kernel_rfl

theorem contract (H : Type) (enc : TypeId × Value → H) (W : World) (base : Nat) (args : Array Value) (ds gs : List (DataW H)) (before : List MemPlace)
    (hval : ∀ (j : Nat) t v, Try.f7.params[j]? = some t → args[j]? = some v → Value.okWide Try.prog W .any base t v)
    (hW : DataW.Whole enc Try.prog Try.f7.params.toList Rows.predicateColumnsSpec.vars false W args.toList ds gs before) (hk : Rows.uptoSmall H (ds ++ gs) = true) :
    Calls Try.prog 7 args W fun e W' => ∃ v, e = .returned v ∧ Rows.predicateColumnsSpec.post enc Try.prog Try.f7 false true false false W args v W' := by
  refine law_contract (ann := ann) (tb := 4) laid (by kernel_rfl) rfl Try.underlying4 rfl (fun ds hd => ?_) hW ?_
  · match ds, hd with
    | [d0, d1], _ => rfl
  · obtain ⟨p, q, hA, hV, _⟩ := hW
    obtain ⟨rfl, _⟩ := trodVars_none hV
    rw [Try.params7] at hA hval
    obtain ⟨v0, vs0, d0, ds0, p0, q0, e0, rfl, rfl, h0, r0⟩ := trodAll_cons hA
    obtain ⟨v1, vs1, d1, ds1, p1, q1, e1, rfl, rfl, h1, r1⟩ := trodAll_cons r0
    obtain ⟨rfl, rfl, rfl⟩ := trodAll_nil r1
    obtain rfl : args = #[v0, v1] := by cases args; simp_all
    have hk := of_decide_eq_true hk
    simp only [List.append_nil, Rows.uptoBulkAll] at hk
    obtain ⟨x0, n0, a0, b0, c0⟩ := arg_one tiles (of_decide_eq_true (by kernel_rfl)) h0 (one_of_wide Try.underlying22 (hval 0 22 v0 rfl rfl))
    have o0 := typed_ok _ _ _ b0
    obtain ⟨y0, g0⟩ := ty22 _ _ b0
    obtain rfl := (List.cons.inj g0).1
    obtain ⟨z1, w1⟩ := agg_of_wide Try.underlying29 (hval 1 29 v1 rfl rfl)
    obtain ⟨x1, n1, a1, b1, c1⟩ := arg_agg tiles (of_decide_eq_true (by kernel_rfl)) h1 w1
    have o1 := typed_ok _ _ _ b1
    obtain ⟨y1, rfl⟩ := ty29 _ _ b1
    exact ⟨_, ev_call (by kernel_rfl) (plain7 y0 y1 o0 o1 (by omega)).2, ⟨a0, rfl⟩, ⟨a1, rfl⟩, trivial⟩

theorem lifted (os : Os) (started : os.Started) (H : Type) (enc : TypeId × Value → H) (F : Stop.Interp) :
    ReturnsInHanded {} Try.checked os 7 .any ((Rows.OpenSpec.upto Rows.predicateColumnsSpec).pre6 enc Try.prog Try.f7 Rows.predicateColumnsUptoRow.domain false) (((Rows.OpenSpec.upto Rows.predicateColumnsSpec).at F).post enc Try.prog Try.f7 false true false false) := by
  refine returnsInHanded_of_cond (C := Try.checked) (s := Rows.OpenSpec.upto Rows.predicateColumnsSpec) (k := Rows.uptoSmall) rfl own started (by kernel_rfl) Try.func7
    (OpenSpec.witness (enc := enc) (C := Try.checked) (s := Rows.OpenSpec.upto Rows.predicateColumnsSpec) (k := Rows.uptoSmall) rfl false ⟨#[], #[.slice none 0 0, .agg #[.int .i64 0, .int .i64 0, .int .i64 0, .int .i64 0, .int .i64 0, .int .i64 0, .string ByteArray.empty, .int .i64 0, .int .i64 0, .int .i64 0, .int .i64 0, .string ByteArray.empty, .slice none 0 0]], []⟩ 8 (by kernel_rfl) (by kernel_rfl) (by kernel_rfl)
      (x := ([.nil, .agg [.lit (.int .i64 0), .lit (.int .i64 0), .agg [.lit (.int .i64 0), .lit (.int .i64 0), .agg [.lit (.int .i64 0), .lit (.int .i64 0), .lit (.string [])]], .agg [.lit (.int .i64 0), .lit (.int .i64 0), .agg [.lit (.int .i64 0), .lit (.int .i64 0), .lit (.string [])]], .nil]], [], [])) (by kernel_rfl) rfl (by kernel_rfl)) ?_
  intro W base args ds gs before hval hW _ hk _
  exact contract H enc W base args ds gs before hval hW hk

theorem over : Rows.predicateColumnsUptoRow.holds Try.pinned (Rows.OpenSpec.upto Rows.predicateColumnsSpec) :=
  OpenClaim.holds_of_cond 7 Try.f7 rfl rfl rfl rfl rfl rfl rfl ⟨rfl, rfl, rfl, rfl, rfl⟩ rfl rfl rfl rfl rfl (by kernel_rfl) Try.func7 (by kernel_rfl)
    (of_decide_eq_true (by kernel_rfl)) (by unfold Func.isWrapper; first | (rw [if_pos (by decide +kernel)]; kernel_rfl) | (rw [if_neg (by decide +kernel)]; exact ⟨rfl, rfl⟩))
    (fun os started H enc _ F => lifted os started H enc F)

theorem proved : Rows.PredicateColumnsUptoSaid := over
end Go.Proofs.Ytalbakjfbgkjjaa.law7
