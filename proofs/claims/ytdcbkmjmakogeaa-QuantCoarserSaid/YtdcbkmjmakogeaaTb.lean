/- What Forward returns for every block, in the program and in the reference. -/
import Derived.Test.YtdcbkmjmakogeaaT6
import Derived.Test.YtdcbkmjmakogeaaT8
namespace Go.Proofs.Ytdcbkmjmakogeaa
open Go.RowKit

/-- What Forward returns. -/
def fwd (x : Nat → Int) : Nat → Int := if inside x 255 64 = true then fw x else fun _ => 0
def fwe (x : Nat → Int) : Int := if inside x 255 64 = true then 0 else 2
theorem forward_both (w : World) (x : Nat → Int) (hx : I64 64 x) :
    Calls Try.prog 27 #[.agg (arr .i64 64 x)] w fun e w' => e = .returned (.tuple #[.agg (arr .i64 64 (fwd x)), .int .i64 (fwe x)]) ∧ Only [] w w' := by
  unfold fwd fwe
  cases h : inside x 255 64 with
  | true => exact forward_in w x hx h
  | false => exact forward_out w x hx h
theorem refForward_both (w : World) (x : Nat → Int) (hx : I64 64 x) :
    Calls Try.prog 21 #[.agg (arr .i64 64 x)] w fun e w' => e = .returned (.tuple #[.agg (arr .i64 64 (fwd x)), .int .i64 (fwe x)]) ∧ Only [] w w' := by
  unfold fwd fwe
  cases h : inside x 255 64 with
  | true => exact refForward_in w x hx h
  | false => exact refForward_out w x hx h
theorem eql64_self (x : Nat → Int) (w : World) : (binOp .eql 30 (.agg (arr .i64 64 x)) (.agg (arr .i64 64 x))).run Try.prog w = .ok (.bool true) w := by
  have := eql64 x x w
  rwa [eqTo_of (fun _ _ => rfl)] at this
end Go.Proofs.Ytdcbkmjmakogeaa
