/- Proved: AudioEncodes returns true for all its arguments, which read afterwards as before. No condition. -/
import Derived.Test.YtmojlfgfaabegaaA16
import Derived.Test.YtmojlfgfaabegaaOp
namespace Go.Proofs.Ytmojlfgfaabegaa.audioEncodes
open Go.ChangeShapes Go.WideShapes Go.ChangeAt Go.RowKit bt

set_option maxRecDepth 100000 in
set_option maxHeartbeats 4000000 in
theorem walk (w : World) (A : Option Addr) (c : Nat) (hs : List (Option Addr × Nat)) (ls : List (List Int)) (h : PcmIs w A hs ls) (hm : ls.length ≤ maxLen) (hb : ∀ l ∈ ls, l.length ≤ maxLen ∧ ∀ z ∈ l, -32768 ≤ z ∧ z ≤ 32767) :
    Calls Try.prog 6 #[.slice A ls.length c] w fun e w' => e = .returned (.bool true) ∧ Only [] w w' := by
  unfold maxLen at hm hb
  have HP := Lib.hid h
  have HB := Lib.hid hb
  clear h hb
  go_enter Try.func6, Try.ntmps6
  go_wp2_with fail
  refine (light_any _ A c hs ls HP.out 400 400 rfl (by omega) (fun l hl => (HB.out l hl).1)).mono ?_
  rintro e w1 ⟨rfl, rfl⟩
  cases hlit : lit ls 400 with
  | false =>
    clear hlit
    go_wp2_with fail
    go_ret
    exact ⟨rfl, Only.refl _ _⟩
  | true =>
  obtain ⟨hl6, hl400⟩ := lit_true.1 hlit
  have HLM := Lib.hid (show ∀ l ∈ ls, l.length ≤ 1099511627776 ∧ ∀ z ∈ l, -32768 ≤ z ∧ z ≤ 32767 from fun l hl => ⟨by have := hl400 l hl; omega, (HB.out l hl).2⟩)
  clear hlit hl400
  go_wp2_with fail
  refine (encode_any _ A c hs ls HP.out (by omega) HLM.out).mono ?_
  rintro e w1 ⟨A1, c1, rfl, r1, o1, _⟩
  have HR1 := Lib.hid r1
  have HO1 := Lib.hid o1
  clear r1 o1
  go_wp2_with fail
  refine (refEncode_any _ A c hs ls (HP.out.then HO1.out) (by omega) HLM.out).mono ?_
  rintro e w2 ⟨A2, c2, rfl, r2, o2, _⟩
  have HR2 := Lib.hid r2
  have HR1' := Lib.hid (HR1.out.then o2)
  have HO2 := Lib.hid (HO1.out.then o2)
  have HLT := Lib.hid (EN_lt ls)
  clear r2 o2 HR1 HO1
  generalize (EN ls).1 = p at HR2 HR1' HLT ⊢
  generalize (EN ls).2 = r
  go_wp2_with fail
  refine (awake_any _).mono ?_
  rintro e w3 ⟨rfl, o3⟩
  have HR3 := Lib.hid (HR1'.out.then o3)
  have HR4 := Lib.hid (HR2.out.then o3)
  have HO3 := Lib.hid (HO2.out.then o3)
  clear o3 HR1' HR2 HO2
  go_wp2_with fail
  refine (same_any _ A1 A2 p.length p.length c1 c2 p p HR3.out HR4.out HLT.out HLT.out).mono ?_
  rintro e w4 ⟨rfl, rfl⟩
  rw [decide_eq_true rfl]
  go_wp2_with fail
  go_ret
  exact ⟨rfl, HO3.out⟩
end Go.Proofs.Ytmojlfgfaabegaa.audioEncodes
