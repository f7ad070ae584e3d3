/- Contracts of plain functions, written by the kit's print for this claim (law List), with lemmas of this session's own laid in. -/
import Derived.Test.YtlklegdaeffcpaaQList0
namespace Go.Proofs.Ytlklegdaeffcpaa.PList
open Go.RowKit Go.Proofs.YtlklegdaeffcpaaW.PrintWords Go.Proofs.YtlklegdaeffcpaaW.PrintLast Go.Proofs.YtlklegdaeffcpaaW.PrintMore
attribute [local go_sem] max2_int min2_int max_two min_two max_three min_three max_four min_four   -- for this text's walks alone
set_option linter.unusedVariables false
set_option linter.unusedSimpArgs false

theorem eqA40 (d : Nat) (w : World) (x0 y0 : Int) (x1 y1 : Int) :
    (Op.equalIn (d + 2) 40 (.agg #[.int .u32 x0, .int .u8 x1]) (.agg #[.int .u32 y0, .int .u8 y1])).run Try.prog w = .ok (x0 == y0 && (x1 == y1)) w := by
  refine eqA_of Try.underlying40 (by kernel_rfl) ?_
  refine eqf_cons (by rfl) (by go_simp; rfl) (by go_simp; rfl) (by go_simp) ?_
  exact eqf_last (by rfl) (by go_simp; rfl) (by go_simp; rfl) (by go_simp)
end Go.Proofs.Ytlklegdaeffcpaa.PList
