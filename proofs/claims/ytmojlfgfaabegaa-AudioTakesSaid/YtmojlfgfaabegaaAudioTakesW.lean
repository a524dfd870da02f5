/- Proved: AudioTakes returns true for all its arguments, which read afterwards as before. No condition. -/
import Derived.Test.YtmojlfgfaabegaaA14
import Derived.Test.YtmojlfgfaabegaaOp
namespace Go.Proofs.Ytmojlfgfaabegaa.audioTakes
open Go.ChangeShapes Go.WideShapes Go.ChangeAt Go.RowKit bt

set_option maxRecDepth 100000 in
set_option maxHeartbeats 4000000 in
theorem walk (w : World) (A : Option Addr) (c : Nat) (p : List Nat) (hr : Reads w A 1 p.length (bytesV p)) (hc : p.length ≤ c) (hm : p.length ≤ maxLen) (hb : ∀ x ∈ p, x < 256) :
    Calls Try.prog 4 #[.slice A p.length c] w fun e w' => e = .returned (.bool true) ∧ Only [] w w' := by
  unfold maxLen at hm
  have HR := Lib.hid hr
  have HB := Lib.hid hb
  clear hr hb
  go_enter Try.func4, Try.ntmps4
  by_cases h5 : 500 < p.length
  · have h5' : (500 : Int) < (p.length : Int) := by omega
    clear h5
    go_wp2_with fail
    go_ret
    exact ⟨rfl, Only.refl _ _⟩
  have h5' : decide ((500 : Int) < (p.length : Int)) = false := decide_eq_false (by omega)
  have h5l : p.length ≤ 500 := by omega
  clear h5
  go_wp2_with fail
  clear h5'
  refine (takeBlock_any _ A c p HR.out hc HB.out (by omega)).mono ?_
  rintro e w1 ⟨A1, c1, hs1, rfl, p1, n1, o1⟩
  have HP1 := Lib.hid p1
  have HO1 := Lib.hid o1
  clear p1 n1 o1
  go_wp2_with fail
  refine (refTakeBlock_any _ A c p (HR.out.then HO1.out) hc HB.out (by omega)).mono ?_
  rintro e w2 ⟨A2, c2, hs2, rfl, p2, n2, o2⟩
  have HP2 := Lib.hid p2
  have HP1' := Lib.hid (HP1.out.then o2)
  have HO2 := Lib.hid (HO1.out.then o2)
  obtain ⟨hq1, hq2⟩ := TB_le p
  have HQ2 := Lib.hid hq2
  clear p2 n2 o2 HP1 HO1 hq2
  generalize (TB p).1 = ls at HP2 HP1' hq1 HQ2 ⊢
  generalize (TB p).2 = r
  go_wp2_with fail
  refine (awake_any _).mono ?_
  rintro e w3 ⟨rfl, o3⟩
  have HP3 := Lib.hid (HP1'.out.then o3)
  have HP4 := Lib.hid (HP2.out.then o3)
  have HO3 := Lib.hid (HO2.out.then o3)
  clear o3 HP1' HP2 HO2
  go_wp2_with fail
  refine (samePcm_any _ A1 A2 c1 c2 hs1 hs2 ls HP3.out HP4.out (by omega) (fun l hl => by have := HQ2.out l hl; omega)).mono ?_
  rintro e w4 ⟨rfl, o4⟩
  have HO4 := Lib.hid (HO3.out.then o4)
  clear o4
  go_wp2_with fail
  go_ret
  exact ⟨rfl, HO4.out⟩
end Go.Proofs.Ytmojlfgfaabegaa.audioTakes
