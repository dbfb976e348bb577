/- == on sums by value. -/
import Derived.Test.YtonjpjiphcbemaaShaSum
import Derived.Stop.BytesEq
namespace Go.Proofs.Ytonjpjiphcbemaa
open Go.RowKit
set_option maxRecDepth 100000 in
theorem eqH (w : World) (xs ys : List UInt8) (hx : xs.length = 32) (hy : ys.length = 32) :
    (Op.equalIn 10000 27 (.agg (bv xs).toArray) (.agg (bv ys).toArray)).run Try.prog w = .ok (xs == ys) w :=
  run_equalIn_bytes w 9998 27 5 32 hashUnder Try.underlying5 (fun _ => rfl) xs ys hx hy
end Go.Proofs.Ytonjpjiphcbemaa
