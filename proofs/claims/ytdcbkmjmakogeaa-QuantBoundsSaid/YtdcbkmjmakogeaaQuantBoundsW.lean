/- QuantBounds: the walk. -/
import Derived.Test.YtdcbkmjmakogeaaQd
namespace Go.Proofs.Ytdcbkmjmakogeaa.quantBounds
open Go.RowKit

theorem walk (w : World) (A2 : Option Addr) (c2 : Nat) (p : List Nat) (hr2 : Reads w A2 1 p.length (p.map fun (b : Nat) => Value.int .u8 (b : Int))) (hm2 : p.length ≤ maxLen) (hp : ∀ x ∈ p, x < 256)
    (q : Int) (_hq : -9223372036854775808 ≤ q ∧ q ≤ 9223372036854775807) :
    Calls Try.prog 9 #[.slice A2 p.length c2, .int .i64 q] w fun e w' => e = .returned (.bool true) ∧ Only [] w w' := by
  have hU := matOf_U8 hp
  generalize hmm : matOf p = m at hU
  have HM := Lib.hid hmm
  clear hmm
  go_enter Try.func9, Try.ntmps9
  go_wp2_with fail
  refine (awake_any _).mono ?_
  rintro e w1 ⟨rfl, o1⟩
  go_wp2_with fail
  refine (qmatrix_any _ A2 c2 p (hr2.then o1) hm2).mono ?_
  rintro e w2 ⟨rfl, o2⟩
  rw [HM.out]
  go_wp2_with fail
  refine (bound_any _ m q hU).mono ?_
  rintro e w3 ⟨rfl, o3⟩
  have ho := (o1.then o2).then o3
  go_wp2_with fail
  refine (qmatrix_any _ A2 c2 p (hr2.then ho) hm2).mono ?_
  rintro e w4 ⟨rfl, o4⟩
  rw [HM.out]
  go_wp2_with fail
  refine (refBound_any _ m q hU).mono ?_
  rintro e w5 ⟨rfl, o5⟩
  go_wp2_with fail
  go_ret
  exact ⟨rfl, (ho.then o4).then o5⟩
end Go.Proofs.Ytdcbkmjmakogeaa.quantBounds
