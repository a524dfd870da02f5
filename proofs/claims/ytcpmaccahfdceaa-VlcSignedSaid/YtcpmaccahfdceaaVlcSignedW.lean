/- Proved: VlcSigned returns true for every number. Nothing in memory that was there changes. No condition. -/
import Derived.Test.YtcpmaccahfdceaaVr
import Derived.Test.YtcpmaccahfdceaaRow
namespace Go.Proofs.Ytcpmaccahfdceaa.vlcSigned
open Go.ChangeShapes Go.WideShapes Go.ChangeAt Go.RowKit bt

set_option maxHeartbeats 1000000 in
theorem walk (w : World) (v : Int) (hv : -9223372036854775808 ≤ v ∧ v ≤ 9223372036854775807) :
    Calls Try.prog 11 #[.int .i64 v] w fun e w' => e = .returned (.bool true) ∧ Only [] w w' := by
  have hne : (sBits v != sBits v) = false := by simp
  by_cases h2 : sPutErr v = 0
  · have hd2 : (sPutErr v == 0) = true := by simpa using h2
    obtain ⟨h0, h1⟩ := sPut_zero h2
    have ec : sCode v = code (fold v) := by unfold sCode; rw [if_pos h2]
    have hcl := sCode_le v
    have Hec := Lib.hid ec
    clear ec h2
    have hfl := fold_le h0 h1
    go_enter Try.func11, Try.ntmps11
    go_wp2_with fail
    refine (newWriter_any _).mono ?_
    rintro e w1 ⟨rfl, hw1, ho1⟩
    go_wp2_with fail
    refine (putS_any _ _ _ _ _ hw1 (by omega) (by simp)).mono ?_
    rintro e w2 ⟨rfl, F2, hw2, ho2, hf2⟩
    rw [List.nil_append] at hw2
    go_wp2_with fail
    refine (vlcSBits_any _ _ hv).mono ?_
    rintro e w3 ⟨rfl, rfl⟩
    go_wp2_with fail
    refine (refBitsS_any _ _).mono ?_
    rintro e w3 ⟨rfl, rfl⟩
    go_wp2_with fail
    refine (putS_nil _ _).mono ?_
    rintro e w3 ⟨rfl, rfl⟩
    go_wp2_with fail
    refine (refMayS_any _ _).mono ?_
    rintro e w3 ⟨rfl, rfl⟩
    have ho02 : Only [] w w2 := ho1.first ho2 (by simp)
    go_wp2_with fail
    refine (awakeV_any _).mono ?_
    rintro e w3 ⟨rfl, ho3⟩
    go_wp2_with fail
    refine (payload_any _ _ _ _ (hw2.then ho3) (by omega)).mono ?_
    rintro e w4 ⟨rfl, hp4, ho4⟩
    go_wp2_with fail
    refine (refSCode_any _ _ ⟨h0, h1⟩).mono ?_
    rintro e w5 ⟨A5, c5, rfl, hown5, ho5⟩
    go_wp2_with fail
    refine (refPayload_any _ _ _ (code (fold v)) (Reads.of_own hown5) (by have h := hlf_le hfl; rw [code_length]; omega)).mono ?_
    rintro e w6 ⟨rfl, hq6, ho6⟩
    have hp6 := (hp4.only ho5 (by simp)).only ho6 (by simp)
    go_wp2_with fail
    refine (same_any _ _ _ _ _ _ _ (payload (sCode v)) (payload (code (fold v))) (payload_reads hp6) (payload_reads hq6) (payload_lt _) (payload_lt _)).mono ?_
    rintro e w7 ⟨rfl, rfl⟩
    rw [Hec.out]
    go_wp2_with fail
    go_ret
    refine ⟨?_, ((((ho02.then ho3).then ho4).then ho5).then ho6)⟩
    simp
  · have hd2 : (sPutErr v == 0) = false := by simpa using h2
    have e2 : sPutErr v = 2 := by unfold sPutErr at h2 ⊢; split at h2 <;> simp_all
    have ec : sCode v = [] := by unfold sCode; rw [if_neg h2]
    have hd3 : (sPutErr v == 2) = true := by simpa using e2
    have Hec := Lib.hid ec
    clear ec h2 e2
    go_enter Try.func11, Try.ntmps11
    go_wp2_with fail
    refine (newWriter_any _).mono ?_
    rintro e w1 ⟨rfl, hw1, ho1⟩
    go_wp2_with fail
    refine (putS_any _ _ _ _ _ hw1 hv (by simp)).mono ?_
    rintro e w2 ⟨rfl, F2, hw2, ho2, hf2⟩
    rw [List.nil_append, Hec.out] at hw2
    go_wp2_with fail
    refine (vlcSBits_any _ _ hv).mono ?_
    rintro e w3 ⟨rfl, rfl⟩
    go_wp2_with fail
    refine (refBitsS_any _ _).mono ?_
    rintro e w3 ⟨rfl, rfl⟩
    go_wp2_with fail
    refine (putS_nil _ _).mono ?_
    rintro e w3 ⟨rfl, rfl⟩
    go_wp2_with fail
    refine (refMayS_any _ _).mono ?_
    rintro e w3 ⟨rfl, rfl⟩
    have ho02 : Only [] w w2 := ho1.first ho2 (by simp)
    go_wp2_with fail
    refine (awakeV_any _).mono ?_
    rintro e w3 ⟨rfl, ho3⟩
    go_wp2_with fail
    refine (len_any _ _ _ _ (hw2.then ho3)).mono ?_
    rintro e w4 ⟨rfl, rfl⟩
    go_wp2_with fail
    go_ret
    exact ⟨rfl, ho02.then ho3⟩
end Go.Proofs.Ytcpmaccahfdceaa.vlcSigned
