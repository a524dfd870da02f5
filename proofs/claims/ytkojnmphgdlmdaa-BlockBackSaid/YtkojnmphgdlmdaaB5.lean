/- Contracts of must: it returns, or panics with a failure. -/
import Derived.Test.YtkojnmphgdlmdaaB4
import Derived.WalkLawsBesides
import Derived.Recover
namespace Go.Proofs.Ytkojnmphgdlmdaa
open Go.RowKit bt

/-- The panic's value. -/
def flr (e : Int) : Value := .iface 69 (.agg #[.int .i64 e])
theorem must_ok (w : World) (n : Int) : Calls Try.prog 45 #[.int .i64 n, .int .i64 0] w fun e w' => e = .returned (.int .i64 n) ∧ w = w' := by
  go_enter Try.func45, Try.ntmps45
  go_wp2_with fail
  go_ret
  exact ⟨rfl, rfl⟩
theorem must_bad (w : World) (n e : Int) (h : (e != 0) = true) : Calls Try.prog 45 #[.int .i64 n, .int .i64 e] w fun r w' => r = .panicked [{ v := flr e, recovered := false }] ∧ w = w' := by
  go_enter Try.func45, Try.ntmps45
  go_wp2_with fail
  exact ⟨rfl, rfl, rfl⟩
end Go.Proofs.Ytkojnmphgdlmdaa
