/- The sanity check 'awake' of chapter 2's laws returns true. -/
import Derived.Test.YtmojlfgfaabegaaRf
namespace Go.Proofs.Ytmojlfgfaabegaa
open Go.RowKit bt

theorem payload_awake : payload (bitsOf 5 3) = [176] := by decide

end Go.Proofs.Ytmojlfgfaabegaa
