/- Sums that are the same, compared. -/
import Derived.Test.YtkjfejkikejnhaaShaKnown
namespace Go.Proofs.Ytkjfejkikejnhaa
open Go.RowKit
theorem eqSame (w : World) (l : List UInt8) : (Op.equalIn 10000 24 (.agg (bv (sha l)).toArray) (.agg (bv (sha l)).toArray)).run Try.prog w = .ok true w := by
  rw [eqH w _ _ (length_sha l) (length_sha l), beq_self_eq_true]
end Go.Proofs.Ytkjfejkikejnhaa
