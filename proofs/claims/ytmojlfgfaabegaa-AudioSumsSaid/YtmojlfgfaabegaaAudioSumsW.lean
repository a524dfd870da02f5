/- Proved: AudioSums returns true for all its arguments, which read afterwards as before. No condition. -/
import Derived.Test.YtmojlfgfaabegaaA14
import Derived.Test.YtmojlfgfaabegaaOp
namespace Go.Proofs.Ytmojlfgfaabegaa.audioSums
open Go.ChangeShapes Go.WideShapes Go.ChangeAt Go.RowKit bt

set_option maxRecDepth 100000 in
set_option maxHeartbeats 4000000 in
theorem walk (w : World) (A : Option Addr) (c : Nat) (p : List Nat) (hr : Reads w A 1 p.length (bytesV p)) (hm : p.length ≤ maxLen) (hb : ∀ x ∈ p, x < 256) (n : Int) (hn : -9223372036854775808 ≤ n ∧ n ≤ 9223372036854775807) :
    Calls Try.prog 3 #[.slice A p.length c, .int .i64 n] w fun e w' => e = .returned (.bool true) ∧ Only [] w w' := by
  unfold maxLen at hm
  have HR := Lib.hid hr
  have HB := Lib.hid hb
  clear hr hb
  go_enter Try.func3, Try.ntmps3
  by_cases h5 : 500 < p.length
  · have h5' : (500 : Int) < (p.length : Int) := by omega
    clear h5
    go_wp2_with fail
    go_ret
    exact ⟨rfl, Only.refl _ _⟩
  have h5' : decide ((500 : Int) < (p.length : Int)) = false := decide_eq_false (by omega)
  have h5l : p.length ≤ 500 := by omega
  clear h5
  go_wp2_with fail
  clear h5'
  refine (awake_any _).mono ?_
  rintro e w1 ⟨rfl, o1⟩
  have HO1 := Lib.hid o1
  clear o1
  go_wp2_with fail
  refine (sum_any _ A c p (HR.out.then HO1.out) HB.out (by omega)).mono ?_
  rintro e w2 ⟨rfl, o2⟩
  have HO2 := Lib.hid (HO1.out.then o2)
  clear o2
  go_wp2_with fail
  refine (refSum_any _ A c p (HR.out.then HO2.out) HB.out (by omega)).mono ?_
  rintro e w3 ⟨rfl, rfl⟩
  generalize crc p = r
  go_wp2_with fail
  refine (blockSize_any _ n hn).mono ?_
  rintro e w3 ⟨rfl, rfl⟩
  go_wp2_with fail
  refine (refBlockSize_any _ n hn).mono ?_
  rintro e w3 ⟨rfl, rfl⟩
  generalize bsz n = z
  go_wp2_with fail
  go_ret
  exact ⟨rfl, HO2.out⟩
end Go.Proofs.Ytmojlfgfaabegaa.audioSums
