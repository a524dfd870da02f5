/- TransformInverse: the walk. -/
import Derived.Test.YtkpmndpocojnkaaTb
namespace Go.Proofs.Ytkpmndpocojnkaa.transformInverse
open Go.RowKit

theorem walk (w : World) (A : Option Addr) (c : Nat) (l : List Int) (hr : Reads w A 1 l.length (l.map (Value.int .i64))) (hm : l.length ≤ maxLen) (hb : ∀ z ∈ l, -9223372036854775808 ≤ z ∧ z ≤ 9223372036854775807) :
    Calls Try.prog 4 #[.slice A l.length c] w fun e w' => e = .returned (.bool true) ∧ Only [] w w' := by
  have hI := blockOf_I64 hb
  generalize hx : blockOf l = x at hI
  have HX := Lib.hid hx
  clear hx
  have heq := eql64_self (inv x)
  go_enter Try.func4, Try.ntmps4
  go_wp2_with fail
  refine (awake_any _).mono ?_
  rintro e w1 ⟨rfl, o1⟩
  go_wp2_with fail
  refine (block_any _ A c l (hr.then o1) hm).mono ?_
  rintro e w2 ⟨rfl, o2⟩
  rw [HX.out]
  go_wp2_with fail
  refine (inverse_any _ x hI).mono ?_
  rintro e w3 ⟨rfl, o3⟩
  have ho := (o1.then o2).then o3
  go_wp2_with fail
  refine (block_any _ A c l (hr.then ho) hm).mono ?_
  rintro e w4 ⟨rfl, o4⟩
  rw [HX.out]
  go_wp2_with fail
  refine (refInverse_any _ x).mono ?_
  rintro e w5 ⟨rfl, o5⟩
  go_wp2_with fail
  go_ret
  exact ⟨rfl, (ho.then o4).then o5⟩
end Go.Proofs.Ytkpmndpocojnkaa.transformInverse
