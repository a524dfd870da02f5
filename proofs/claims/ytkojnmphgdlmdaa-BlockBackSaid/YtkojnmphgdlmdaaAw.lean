/- The sanity check 'awake' of chapter 2's laws returns true. -/
import Derived.Test.YtkojnmphgdlmdaaRf
namespace Go.Proofs.Ytkojnmphgdlmdaa
open Go.RowKit bt

theorem payload_awake : payload (bitsOf 5 3) = [176] := by decide

end Go.Proofs.Ytkojnmphgdlmdaa
