/- The contract of picture.ValidSeq. -/
import Derived.Test.YtmghfhjiodeaeaaV2
namespace Go.Proofs.Ytmghfhjiodeaeaa
open Go.RowKit

set_option maxHeartbeats 4000000 in
set_option maxRecDepth 100000 in
theorem vs_any (w : World) (s : Sq) (hI : SqI s) : Calls Try.prog 30 #[.agg (sqA s)] w fun e w' => e = .returned (.bool (vs s)) ∧ Only [] w w' := by
  obtain ⟨W, H, num, den, il, br, bf, a, b⟩ := s
  go_enter Try.func30, Try.ntmps30
  have tok : True := trivial
  go_wp2_with (clear tok; refine bxS (s := ⟨W, H, num, den, il, br, bf, a, b⟩) rfl rfl rfl ?_; rintro g1 w1 b1 o1 l1; obtain ⟨c0, c1, c2, c3, c4, c5, c6⟩ := b1.sq; simp only at c0 c1 c2 c3 c4 c5 c6)
  have R2 := b1.sqRate
  simp only at R2
  refine (mb_any _ W).mono ?_
  rintro e wv ⟨rfl, rfl⟩
  cases hW : mbB W with
  | false =>
    have hW' : ¬ (16 ≤ W ∧ W ≤ 64 ∧ W % 16 = 0) := by simpa [mbB] using hW
    go_wp2_with fail
    go_ret
    exact ⟨congrArg Ending.returned (congrArg Value.bool (vs_false (fun h => hW' ⟨h.1, h.2.1, h.2.2.1⟩)).symm), o1⟩
  | true =>
    have hW' : 16 ≤ W ∧ W ≤ 64 ∧ W % 16 = 0 := by simpa [mbB] using hW
    go_wp2_with fail
    refine (mb_any _ H).mono ?_
    rintro e wv ⟨rfl, rfl⟩
    cases hH : mbB H with
    | false =>
      have hH' : ¬ (16 ≤ H ∧ H ≤ 64 ∧ H % 16 = 0) := by simpa [mbB] using hH
      go_wp2_with fail
      go_ret
      exact ⟨congrArg Ending.returned (congrArg Value.bool (vs_false (fun h => hH' ⟨h.2.2.2.1, h.2.2.2.2.1, h.2.2.2.2.2.1⟩)).symm), o1⟩
    | true =>
      have hH' : 16 ≤ H ∧ H ≤ 64 ∧ H % 16 = 0 := by simpa [mbB] using hH
      have gW1 := hW'.1
      have gW2 := hW'.2.1
      have Hm1 := Lib.hid hW'.2.2
      have gH1 := hH'.1
      have gH2 := hH'.2.1
      have Hm2 := Lib.hid hH'.2.2
      clear hW hH hW' hH'
      cases il with
      | true =>
        by_cases m3 : ¬ H % 32 = 0
        · have dm3 : (H % 32 != 0) = true := by simpa using m3
          have em3 : (H % 32 == 0) = false := by simpa using m3
          go_wp2_with fail
          go_ret
          exact ⟨congrArg Ending.returned (congrArg Value.bool (vs_false (fun h => by unfold VS at h; simp only at h; have := h.2.2.2.2.2.2.1 trivial; omega)).symm), o1⟩
        · have m3' : H % 32 = 0 := by omega
          have dm3 : (H % 32 != 0) = false := by simpa using m3'
          have em3 : (H % 32 == 0) = true := by simpa using m3'
          have Hm3 := Lib.hid m3'
          clear m3 m3'
          have HIL := Lib.hid (show (true = true → H % 32 = 0) from fun _ => Hm3.out)
          have tok : True := trivial
          go_wp2_with (clear tok; refine gldM R2 rfl rfl rfl Try.underlying23 rfl info_rat ?_)
          refine (rat_any _ num den hI.num hI.den).mono ?_
          rintro e w3 ⟨rfl, o3⟩
          have hb3 := b1.only o3 (by simp)
          have ho3 := o1.then o3
          obtain ⟨C0, C1, C2, C3, C4, C5, C6⟩ := hb3.sq
          simp only at C0 C1 C2 C3 C4 C5 C6
          have R7 := hb3.sqIntra
          simp only at R7
          clear c0 c1 c2 c3 c4 c5 c6
          cases hrv : decide (RV num den) with
          | false =>
            have hnr : ¬ RV num den := by simpa using hrv
            go_wp2_with fail
            go_ret
            exact ⟨congrArg Ending.returned (congrArg Value.bool (vs_false (fun h => hnr h.2.2.2.2.2.2.2.1)).symm), ho3⟩
          | true =>
            have hr0 : RV num den := by simpa using hrv
            have hden : 1 ≤ den := hr0.1
            have HRV := Lib.hid hr0
            clear hr0 hrv
            by_cases k1 : num < 1
            · have dk1 : decide (num < 1) = true := by simpa using k1
              go_wp2_with fail
              go_ret
              exact ⟨congrArg Ending.returned (congrArg Value.bool (vs_false (fun h => by unfold VS at h; simp only at h; omega)).symm), ho3⟩
            · have dk1 : decide (num < 1) = false := by simpa using k1
              have gk1 : 1 ≤ num := by omega
              clear k1
              by_cases k2 : 1048576 < num
              · have dk2 : decide (1048576 < num) = true := by simpa using k2
                go_wp2_with fail
                go_ret
                exact ⟨congrArg Ending.returned (congrArg Value.bool (vs_false (fun h => by unfold VS at h; simp only at h; omega)).symm), ho3⟩
              · have dk2 : decide (1048576 < num) = false := by simpa using k2
                have gk2 : num ≤ 1048576 := by omega
                clear k2
                by_cases k3 : 65536 < den
                · have dk3 : decide (65536 < den) = true := by simpa using k3
                  go_wp2_with fail
                  go_ret
                  exact ⟨congrArg Ending.returned (congrArg Value.bool (vs_false (fun h => by unfold VS at h; simp only at h; omega)).symm), ho3⟩
                · have dk3 : decide (65536 < den) = false := by simpa using k3
                  have gk3 : den ≤ 65536 := by omega
                  clear k3
                  by_cases k4 : br < 1
                  · have dk4 : decide (br < 1) = true := by simpa using k4
                    go_wp2_with fail
                    go_ret
                    exact ⟨congrArg Ending.returned (congrArg Value.bool (vs_false (fun h => by unfold VS at h; simp only at h; omega)).symm), ho3⟩
                  · have dk4 : decide (br < 1) = false := by simpa using k4
                    have gk4 : 1 ≤ br := by omega
                    clear k4
                    by_cases k5 : 16777216 < br
                    · have dk5 : decide (16777216 < br) = true := by simpa using k5
                      go_wp2_with fail
                      go_ret
                      exact ⟨congrArg Ending.returned (congrArg Value.bool (vs_false (fun h => by unfold VS at h; simp only at h; omega)).symm), ho3⟩
                    · have dk5 : decide (16777216 < br) = false := by simpa using k5
                      have gk5 : br ≤ 16777216 := by omega
                      clear k5
                      by_cases k6 : bf < 1
                      · have dk6 : decide (bf < 1) = true := by simpa using k6
                        go_wp2_with fail
                        go_ret
                        exact ⟨congrArg Ending.returned (congrArg Value.bool (vs_false (fun h => by unfold VS at h; simp only at h; omega)).symm), ho3⟩
                      · have dk6 : decide (bf < 1) = false := by simpa using k6
                        have gk6 : 1 ≤ bf := by omega
                        clear k6
                        by_cases k7 : 8388608 < bf
                        · have dk7 : decide (8388608 < bf) = true := by simpa using k7
                          go_wp2_with fail
                          go_ret
                          exact ⟨congrArg Ending.returned (congrArg Value.bool (vs_false (fun h => by unfold VS at h; simp only at h; omega)).symm), ho3⟩
                        · have dk7 : decide (8388608 < bf) = false := by simpa using k7
                          have gk7 : bf ≤ 8388608 := by omega
                          clear k7
                          have hp1 : 0 ≤ num * bf ∧ num * bf ≤ 1048576 * 8388608 := mulp (by omega) (by omega)
                          have hp2 : 0 ≤ den * br ∧ den * br ≤ 65536 * 16777216 := mulp (by omega) (by omega)
                          have hp3 : 2 * num * bf = 2 * (num * bf) := Int.mul_assoc _ _ _
                          have hp4 : 3 * den * br = 3 * (den * br) := Int.mul_assoc _ _ _
                          have hq1 : 0 ≤ 2 * num * bf ∧ 2 * num * bf ≤ 2 * (1048576 * 8388608) := by omega
                          have hq2 : 0 ≤ 3 * den * br ∧ 3 * den * br ≤ 3 * (65536 * 16777216) := by omega
                          clear hp1 hp2 hp3 hp4
                          by_cases k8 : 2 * num * bf < 3 * den * br + 32 * num
                          · have dk8 : decide (2 * num * bf < 3 * den * br + 32 * num) = true := by simpa using k8
                            go_wp2_with fail
                            go_ret
                            exact ⟨congrArg Ending.returned (congrArg Value.bool (vs_false (fun h => by unfold VS at h; simp only at h; omega)).symm), ho3⟩
                          · have dk8 : decide (2 * num * bf < 3 * den * br + 32 * num) = false := by simpa using k8
                            have gk8 : 3 * den * br + 32 * num ≤ 2 * num * bf := by omega
                            clear k8
                            have tok : True := trivial
                            go_wp2_with (clear tok; refine gldM R7 rfl rfl rfl Try.underlying24 rfl (info_row8 _) ?_)
                            refine (valid_any _ a).mono ?_
                            rintro e w4 ⟨rfl, o4⟩
                            have hb4 := hb3.only o4 (by simp)
                            have R8 := hb4.sqInter
                            cases hva : vld a 64 with
                            | false =>
                              go_wp2_with fail
                              go_ret
                              exact ⟨congrArg Ending.returned (congrArg Value.bool (vs_false (fun h => by unfold VS at h; simp only at h; rw [hva] at h; simp at h)).symm), (ho3.then o4)⟩
                            | true =>
                              have tok : True := trivial
                              go_wp2_with (clear tok; refine gldM R8 rfl rfl rfl Try.underlying24 rfl (info_row8 _) ?_)
                              refine (valid_any _ b).mono ?_
                              rintro e w5 ⟨rfl, o5⟩
                              cases hvb : vld b 64 with
                              | false =>
                                go_wp2_with fail
                                go_ret
                                exact ⟨congrArg Ending.returned (congrArg Value.bool (vs_false (fun h => by unfold VS at h; simp only at h; rw [hvb] at h; simp at h)).symm), (ho3.then o4).then o5⟩
                              | true =>
                                go_wp2_with fail
                                go_ret
                                refine ⟨congrArg Ending.returned (congrArg Value.bool (vs_true.2 ?_).symm), (ho3.then o4).then o5⟩
                                exact ⟨by omega, by omega, Hm1.out, by omega, by omega, Hm2.out, (fun h => by first | (cases h; done) | exact HIL.out trivial | exact HIL.out h), HRV.out, by omega, by omega, by omega, by omega, by omega, by omega, by omega, by omega, hva, hvb⟩
      | false =>
        have HIL := Lib.hid (show (false = true → H % 32 = 0) from fun h => by cases h)
        have tok : True := trivial
        go_wp2_with (clear tok; refine gldM R2 rfl rfl rfl Try.underlying23 rfl info_rat ?_)
        refine (rat_any _ num den hI.num hI.den).mono ?_
        rintro e w3 ⟨rfl, o3⟩
        have hb3 := b1.only o3 (by simp)
        have ho3 := o1.then o3
        obtain ⟨C0, C1, C2, C3, C4, C5, C6⟩ := hb3.sq
        simp only at C0 C1 C2 C3 C4 C5 C6
        have R7 := hb3.sqIntra
        simp only at R7
        clear c0 c1 c2 c3 c4 c5 c6
        cases hrv : decide (RV num den) with
        | false =>
          have hnr : ¬ RV num den := by simpa using hrv
          go_wp2_with fail
          go_ret
          exact ⟨congrArg Ending.returned (congrArg Value.bool (vs_false (fun h => hnr h.2.2.2.2.2.2.2.1)).symm), ho3⟩
        | true =>
          have hr0 : RV num den := by simpa using hrv
          have hden : 1 ≤ den := hr0.1
          have HRV := Lib.hid hr0
          clear hr0 hrv
          by_cases k1 : num < 1
          · have dk1 : decide (num < 1) = true := by simpa using k1
            go_wp2_with fail
            go_ret
            exact ⟨congrArg Ending.returned (congrArg Value.bool (vs_false (fun h => by unfold VS at h; simp only at h; omega)).symm), ho3⟩
          · have dk1 : decide (num < 1) = false := by simpa using k1
            have gk1 : 1 ≤ num := by omega
            clear k1
            by_cases k2 : 1048576 < num
            · have dk2 : decide (1048576 < num) = true := by simpa using k2
              go_wp2_with fail
              go_ret
              exact ⟨congrArg Ending.returned (congrArg Value.bool (vs_false (fun h => by unfold VS at h; simp only at h; omega)).symm), ho3⟩
            · have dk2 : decide (1048576 < num) = false := by simpa using k2
              have gk2 : num ≤ 1048576 := by omega
              clear k2
              by_cases k3 : 65536 < den
              · have dk3 : decide (65536 < den) = true := by simpa using k3
                go_wp2_with fail
                go_ret
                exact ⟨congrArg Ending.returned (congrArg Value.bool (vs_false (fun h => by unfold VS at h; simp only at h; omega)).symm), ho3⟩
              · have dk3 : decide (65536 < den) = false := by simpa using k3
                have gk3 : den ≤ 65536 := by omega
                clear k3
                by_cases k4 : br < 1
                · have dk4 : decide (br < 1) = true := by simpa using k4
                  go_wp2_with fail
                  go_ret
                  exact ⟨congrArg Ending.returned (congrArg Value.bool (vs_false (fun h => by unfold VS at h; simp only at h; omega)).symm), ho3⟩
                · have dk4 : decide (br < 1) = false := by simpa using k4
                  have gk4 : 1 ≤ br := by omega
                  clear k4
                  by_cases k5 : 16777216 < br
                  · have dk5 : decide (16777216 < br) = true := by simpa using k5
                    go_wp2_with fail
                    go_ret
                    exact ⟨congrArg Ending.returned (congrArg Value.bool (vs_false (fun h => by unfold VS at h; simp only at h; omega)).symm), ho3⟩
                  · have dk5 : decide (16777216 < br) = false := by simpa using k5
                    have gk5 : br ≤ 16777216 := by omega
                    clear k5
                    by_cases k6 : bf < 1
                    · have dk6 : decide (bf < 1) = true := by simpa using k6
                      go_wp2_with fail
                      go_ret
                      exact ⟨congrArg Ending.returned (congrArg Value.bool (vs_false (fun h => by unfold VS at h; simp only at h; omega)).symm), ho3⟩
                    · have dk6 : decide (bf < 1) = false := by simpa using k6
                      have gk6 : 1 ≤ bf := by omega
                      clear k6
                      by_cases k7 : 8388608 < bf
                      · have dk7 : decide (8388608 < bf) = true := by simpa using k7
                        go_wp2_with fail
                        go_ret
                        exact ⟨congrArg Ending.returned (congrArg Value.bool (vs_false (fun h => by unfold VS at h; simp only at h; omega)).symm), ho3⟩
                      · have dk7 : decide (8388608 < bf) = false := by simpa using k7
                        have gk7 : bf ≤ 8388608 := by omega
                        clear k7
                        have hp1 : 0 ≤ num * bf ∧ num * bf ≤ 1048576 * 8388608 := mulp (by omega) (by omega)
                        have hp2 : 0 ≤ den * br ∧ den * br ≤ 65536 * 16777216 := mulp (by omega) (by omega)
                        have hp3 : 2 * num * bf = 2 * (num * bf) := Int.mul_assoc _ _ _
                        have hp4 : 3 * den * br = 3 * (den * br) := Int.mul_assoc _ _ _
                        have hq1 : 0 ≤ 2 * num * bf ∧ 2 * num * bf ≤ 2 * (1048576 * 8388608) := by omega
                        have hq2 : 0 ≤ 3 * den * br ∧ 3 * den * br ≤ 3 * (65536 * 16777216) := by omega
                        clear hp1 hp2 hp3 hp4
                        by_cases k8 : 2 * num * bf < 3 * den * br + 32 * num
                        · have dk8 : decide (2 * num * bf < 3 * den * br + 32 * num) = true := by simpa using k8
                          go_wp2_with fail
                          go_ret
                          exact ⟨congrArg Ending.returned (congrArg Value.bool (vs_false (fun h => by unfold VS at h; simp only at h; omega)).symm), ho3⟩
                        · have dk8 : decide (2 * num * bf < 3 * den * br + 32 * num) = false := by simpa using k8
                          have gk8 : 3 * den * br + 32 * num ≤ 2 * num * bf := by omega
                          clear k8
                          have tok : True := trivial
                          go_wp2_with (clear tok; refine gldM R7 rfl rfl rfl Try.underlying24 rfl (info_row8 _) ?_)
                          refine (valid_any _ a).mono ?_
                          rintro e w4 ⟨rfl, o4⟩
                          have hb4 := hb3.only o4 (by simp)
                          have R8 := hb4.sqInter
                          cases hva : vld a 64 with
                          | false =>
                            go_wp2_with fail
                            go_ret
                            exact ⟨congrArg Ending.returned (congrArg Value.bool (vs_false (fun h => by unfold VS at h; simp only at h; rw [hva] at h; simp at h)).symm), (ho3.then o4)⟩
                          | true =>
                            have tok : True := trivial
                            go_wp2_with (clear tok; refine gldM R8 rfl rfl rfl Try.underlying24 rfl (info_row8 _) ?_)
                            refine (valid_any _ b).mono ?_
                            rintro e w5 ⟨rfl, o5⟩
                            cases hvb : vld b 64 with
                            | false =>
                              go_wp2_with fail
                              go_ret
                              exact ⟨congrArg Ending.returned (congrArg Value.bool (vs_false (fun h => by unfold VS at h; simp only at h; rw [hvb] at h; simp at h)).symm), (ho3.then o4).then o5⟩
                            | true =>
                              go_wp2_with fail
                              go_ret
                              refine ⟨congrArg Ending.returned (congrArg Value.bool (vs_true.2 ?_).symm), (ho3.then o4).then o5⟩
                              exact ⟨by omega, by omega, Hm1.out, by omega, by omega, Hm2.out, (fun h => by first | (cases h; done) | exact HIL.out trivial | exact HIL.out h), HRV.out, by omega, by omega, by omega, by omega, by omega, by omega, by omega, by omega, hva, hvb⟩
end Go.Proofs.Ytmghfhjiodeaeaa
