/- Proved: BlockPuts returns true for all its arguments, which read afterwards as before. No condition. -/
import Derived.Test.YtkojnmphgdlmdaaB4
import Derived.Test.YtkojnmphgdlmdaaRow
namespace Go.Proofs.Ytkojnmphgdlmdaa.blockPuts
open Go.ChangeShapes Go.WideShapes Go.ChangeAt Go.RowKit bt

set_option maxRecDepth 100000 in
set_option maxHeartbeats 4000000 in
theorem walk (w : World) (A : Option Addr) (c : Nat) (l : List Int) (hr : Reads w A 1 l.length (l.map (Value.int .i64))) (hm : l.length ≤ maxLen) (_hb : ∀ z ∈ l, -9223372036854775808 ≤ z ∧ z ≤ 9223372036854775807) (f : Int) (_hf : -9223372036854775808 ≤ f ∧ f ≤ 9223372036854775807) :
    Calls Try.prog 3 #[.slice A l.length c, .int .i64 f] w fun e w' => e = .returned (.bool true) ∧ Only [] w w' := by
  have Hr := Lib.hid hr
  clear hr _hb
  go_enter Try.func3, Try.ntmps3
  go_wp2_with fail
  refine (levels_any _ A c l Hr.out hm).mono ?_
  generalize blockOf l = x
  rintro e w1 ⟨rfl, o1⟩
  have tok : True := trivial
  have tok2 : True := trivial
  go_wp2_with (first | (clear tok; refine al64 rfl rfl ?_; rintro g2 w2 b2 o2 l2) | (clear tok2; refine sr64 (y := x) b2 rfl rfl rfl rfl ?_; rintro w3 b3 o3 l3))
  have ho3 : Only [] w w3 := o1.then (Only.own o2 o3 l2)
  clear o1 o2 o3 b2 l3
  refine (newWriter_any _).mono ?_
  rintro e w4 ⟨rfl, hw4, o4⟩
  have b4 := b3.only o4 (by simp)
  generalize hg : w3.heap.size = g
  rw [hg] at hw4
  have hgg : g2 ≠ g := by have := b3.lt; omega
  have hgw : w.heap.size ≤ g := by have := ho3.size; omega
  have HW4 := Lib.hid hw4
  have ho4 := ho3.then o4
  have hs4 : g2 < w4.heap.size := b4.lt
  clear hw4 o4 b3 ho3 hg
  have tok : True := trivial
  go_wp2_with (clear tok; refine ld64 (x := x) b4 rfl rfl rfl ?_)
  refine (bput_any _ g [g] [] x f HW4.out (by simp)).mono ?_
  rintro e w5 ⟨rfl, F5, hw5, o5, f5⟩
  rw [List.nil_append] at hw5
  have b5 := b4.only o5 (by simp [hgg])
  have ho5 : Only [] w w5 := ho4.first o5 (by simpa using hgw)
  have HW5 := Lib.hid hw5
  have hbl := bOut_le x f
  clear hw5 o5 b4 HW4 f5
  have tok : True := trivial
  go_wp2_with (clear tok; refine ld64 (x := x) b5 rfl rfl rfl ?_)
  refine (refBCode_any _ x f).mono ?_
  rintro e w6 ⟨A6, c6, rfl, r6, o6⟩
  have b6 := b5.only o6 (by simp)
  have ho6 := ho5.then o6
  have HW6 := Lib.hid (writer_keep HW5.out o6)
  have R6 := Lib.hid r6
  clear o6 b5 ho5 HW5 r6
  generalize hbo : bOut x f = bo at HW6 R6 hbl ⊢
  have HBo := Lib.hid hbo
  have hcase : pErr x f = 0 ∨ (pErr x f != 0) = true := by
    by_cases h : pErr x f = 0
    · exact .inl h
    · exact .inr (by simpa using h)
  generalize hpe : pErr x f = pe at hcase ⊢
  clear hbo hpe
  have tok : True := trivial
  go_wp2_with (clear tok; refine gld64 (x := x) b6 rfl rfl rfl ?_)
  refine (bbits_any _ x f).mono ?_
  rw [HBo.out]
  rintro e w7 ⟨rfl, o7⟩
  have b7 := b6.only o7 (by simp)
  have ho7 := ho6.then o7
  have HW7 := Lib.hid (writer_keep HW6.out o7)
  have R7 := Lib.hid (R6.out.then o7)
  clear o7 b6 ho6 HW6 R6
  have tok : True := trivial
  go_wp2_with (clear tok; refine gld64 (x := x) b7 rfl rfl rfl ?_)
  refine (putNil_any _ x f).mono ?_
  rintro e w8 ⟨rfl, o8⟩
  have ho8 := ho7.then o8
  have HW8 := Lib.hid (writer_keep HW7.out o8)
  have R8 := Lib.hid (R7.out.then o8)
  clear o8 b7 ho7 HW7 R7
  go_wp2_with fail
  refine (awake_any _).mono ?_
  rintro e w9 ⟨rfl, o9⟩
  have ho9 := ho8.then o9
  have HW9 := Lib.hid (writer_keep HW8.out o9)
  have R9 := Lib.hid (R8.out.then o9)
  clear o9 ho8 HW8 R8
  rcases hcase with rfl | hpn
  · go_wp2_with fail
    refine (payload_any _ _ _ _ HW9.out (by omega)).mono ?_
    rintro e w10 ⟨rfl, hp10, o10⟩
    have ho10 := ho9.then o10
    have R10 := Lib.hid (R9.out.then o10)
    have Hp10 := Lib.hid hp10
    clear hp10 o10 ho9 HW9 R9
    go_wp2_with fail
    refine (refPayload_any _ _ _ bo R10.out (by omega)).mono ?_
    rintro e w11 ⟨rfl, hq11, o11⟩
    have hp11 := Hp10.out.only o11 (by simp)
    have ho11 := ho10.then o11
    have Hq := Lib.hid (payload_reads hq11)
    have Hp := Lib.hid (payload_reads hp11)
    clear hq11 hp11 o11 Hp10 R10 ho10
    go_wp2_with fail
    refine (same_any _ _ _ _ _ _ _ (payload bo) (payload bo) Hp.out Hq.out (payload_lt _) (payload_lt _)).mono ?_
    rintro e w12 ⟨rfl, rfl⟩
    go_wp2_with fail
    go_ret
    exact ⟨rfl, ho11⟩
  · go_wp2_with fail
    go_ret
    exact ⟨rfl, ho9⟩
end Go.Proofs.Ytkojnmphgdlmdaa.blockPuts
