/- The reference's Seal and Open: what each returns. -/
import Derived.Test.YtcpifcdndhhmgaaChecked
import Derived.Test.YtcpifcdndhhmgaaCrcSum
import Derived.Test.YtcpifcdndhhmgaaAppendK
import Derived.Test.YtcpifcdndhhmgaaSealPlain
import Derived.Test.YtcpifcdndhhmgaaOpen
set_option linter.unusedVariables false
set_option linter.unusedSimpArgs false
namespace Go.Proofs.Ytcpifcdndhhmgaa
open Go.RowKit

end Go.Proofs.Ytcpifcdndhhmgaa
