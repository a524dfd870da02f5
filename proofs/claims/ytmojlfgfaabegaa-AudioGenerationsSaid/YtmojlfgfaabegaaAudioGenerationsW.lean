/- Proved: AudioGenerations returns true for all its arguments, which read afterwards as before. No condition. -/
import Derived.Test.YtmojlfgfaabegaaA23
import Derived.Test.YtmojlfgfaabegaaOp
namespace Go.Proofs.Ytmojlfgfaabegaa.audioGenerations
open Go.ChangeShapes Go.WideShapes Go.ChangeAt Go.RowKit bt

set_option maxRecDepth 100000 in
set_option maxHeartbeats 4000000 in
theorem walk (w : World) (A : Option Addr) (c : Nat) (hs : List (Option Addr × Nat)) (ls : List (List Int)) (h : PcmIs w A hs ls) (hm : ls.length ≤ maxLen) (hb : ∀ l ∈ ls, l.length ≤ maxLen ∧ ∀ z ∈ l, -32768 ≤ z ∧ z ≤ 32767) :
    Calls Try.prog 8 #[.slice A ls.length c] w fun e w' => e = .returned (.bool true) ∧ Only [] w w' := by
  unfold maxLen at hm hb
  have HP := Lib.hid h
  have HB := Lib.hid hb
  clear h hb
  go_enter Try.func8, Try.ntmps8
  go_wp2_with fail
  refine (light_any _ A c hs ls HP.out 400 400 rfl (by omega) (fun l hl => (HB.out l hl).1)).mono ?_
  rintro e w1 ⟨rfl, rfl⟩
  cases hlit : lit ls 400 with
  | false =>
    clear hlit
    go_wp2_with fail
    refine (awake_any _).mono ?_
    rintro e w1 ⟨rfl, o1⟩
    have HO1 := Lib.hid o1
    clear o1
    go_wp2_with fail
    go_ret
    exact ⟨rfl, HO1.out⟩
  | true =>
  obtain ⟨hl6, hl400⟩ := lit_true.1 hlit
  have H400 := Lib.hid hl400
  have HLM := Lib.hid (show ∀ l ∈ ls, l.length ≤ 1099511627776 ∧ ∀ z ∈ l, -32768 ≤ z ∧ z ≤ 32767 from fun l hl => ⟨by have := hl400 l hl; omega, (HB.out l hl).2⟩)
  clear hlit hl400 HB hm
  go_wp2_with fail
  refine (refProper_any _ A c hs ls HP.out (by omega) (fun l hl => (HLM.out l hl).1)).mono ?_
  rintro e w1 ⟨rfl, o1⟩
  have HO1 := Lib.hid o1
  clear o1
  cases hpr : pr ls 1048576 with
  | false =>
    clear hpr
    go_wp2_with fail
    refine (awake_any _).mono ?_
    rintro e w2 ⟨rfl, o2⟩
    have HO2 := Lib.hid (HO1.out.then o2)
    clear o2
    go_wp2_with fail
    go_ret
    exact ⟨rfl, HO2.out⟩
  | true =>
  obtain ⟨hcd, he0⟩ := Coded.of hpr (fun l hl => (HLM.out l hl).2)
  obtain ⟨hc1, hc4, _⟩ := hcd.le
  have hn400 := coded_n hcd H400.out
  have HPL := Lib.hid hcd.c_drop.2.1
  have HLT := Lib.hid (EN_lt ls)
  go_wp2_with fail
  refine (encode_any _ A c hs ls (HP.out.then HO1.out) (by omega) HLM.out).mono ?_
  rintro e w2 ⟨A1, c1, rfl, r1, o1, hcap1⟩
  rw [he0]
  have HCD := Lib.hid hcd
  clear hcd he0 hpr
  generalize hp : (EN ls).1 = p at r1 hcap1 HPL HLT HCD ⊢
  generalize hn : (ls.headD []).length = n at HPL HCD hn400 ⊢
  have HN := Lib.hid hn
  have hplen : p.length ≤ 2000 := coded_len HCD.out hn400
  have HR1 := Lib.hid r1
  have HO2 := Lib.hid (HO1.out.then o1)
  have HP2 := Lib.hid ((HP.out.then HO1.out).then o1)
  clear r1 o1 hp hn HP
  go_wp2_with fail
  refine (decode_any _ A1 c1 p HR1.out hcap1 HLT.out (by omega)).mono ?_
  rintro e w3 ⟨A2, c2, hs2, B2, d2, rfl, hp2, hr2, o2⟩
  rw [HCD.out.c_all] at hp2 hr2 ⊢
  have HP3 := Lib.hid hp2
  have HO3 := Lib.hid (HO2.out.then o2)
  have HR3 := Lib.hid (HR1.out.then o2)
  have HPO := Lib.hid (HP2.out.then o2)
  clear hp2 hr2 o2 HO2 HR1 HP2
  have hlm : (ls.map rw1).length = ls.length := List.length_map ..
  simp only [hlm, List.length_nil] at ⊢
  clear hlm
  go_wp2_with fail
  have HLM2 := Lib.hid (show ∀ l ∈ ls.map rw1, l.length ≤ 1099511627776 ∧ ∀ z ∈ l, -32768 ≤ z ∧ z ≤ 32767 from fun l hl => rw1_all HLM.out l hl)
  have hlm : ls.length = (ls.map rw1).length := (List.length_map ..).symm
  rw [hlm]
  have hlm6 : (ls.map rw1).length ≤ 6 := by omega
  have HEN2 := Lib.hid (show EN (ls.map rw1) = (p, 0) from by rw [EN_rw1 (fun l hl => (HLM.out l hl).2)]; exact coded_zero HCD.out)
  clear hlm
  refine (encode_any _ A2 c2 hs2 (ls.map rw1) HP3.out (by omega) HLM2.out).mono ?_
  rintro e w4 ⟨A3, c3, rfl, r3, o3, _⟩
  rw [HEN2.out] at r3 ⊢
  have HR4 := Lib.hid r3
  have HR5 := Lib.hid (HR3.out.then o3)
  have HO4 := Lib.hid (HO3.out.then o3)
  clear r3 o3 HR3 HO3
  simp only at ⊢
  go_wp2_with fail
  refine (awake_any _).mono ?_
  rintro e w5 ⟨rfl, o5⟩
  have HR6 := Lib.hid (HR4.out.then o5)
  have HR7 := Lib.hid (HR5.out.then o5)
  have HO5 := Lib.hid (HO4.out.then o5)
  clear o5 HR4 HR5 HO4
  go_wp2_with fail
  refine (same_any _ A1 A3 p.length p.length c1 c3 p p HR7.out HR6.out HLT.out HLT.out).mono ?_
  rintro e w6 ⟨rfl, rfl⟩
  rw [decide_eq_true rfl]
  go_wp2_with fail
  go_ret
  exact ⟨rfl, HO5.out⟩
end Go.Proofs.Ytmojlfgfaabegaa.audioGenerations
