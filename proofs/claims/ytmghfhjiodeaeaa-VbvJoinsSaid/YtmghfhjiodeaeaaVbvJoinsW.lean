/- VbvJoins: the walk. -/
import Derived.Test.YtmghfhjiodeaeaaP1
import Derived.Test.YtmghfhjiodeaeaaVo
namespace Go.Proofs.Ytmghfhjiodeaeaa.vbvJoins
open Go.RowKit

set_option maxHeartbeats 2000000 in
set_option maxRecDepth 100000 in
theorem walk (w : World) (s : Sq) (hI : SqI s) (A : Option Addr) (c : Nat) (us : List Un) (hrA : Reads w A 4 us.length (uV us)) (_hc : us.length ≤ maxLen) (_hu : ∀ x ∈ us, UnI x)
    (B : Option Addr) (d : Nat) (us2 : List Un) (hrB : Reads w B 4 us2.length (uV us2)) (_hd : us2.length ≤ maxLen) (_hu2 : ∀ x ∈ us2, UnI x) (wt : Int) (_hw : -9223372036854775808 ≤ wt ∧ wt ≤ 9223372036854775807) :
    Calls Try.prog 5 #[.agg (sqA s), .slice A us.length c, .slice B us2.length d, .int .i64 wt] w fun e w' => e = .returned (.bool true) ∧ Only [] w w' := by
  obtain ⟨i0, hi0, hz0, hz1, hz2⟩ := info_parts info_un
  have HrA := Lib.hid hrA
  have HrB := Lib.hid hrB
  clear hrA hrB _hu _hu2
  go_enter Try.func5, Try.ntmps5
  by_cases hA : us.length ≤ 100
  · have hdA : decide ((100 : Int) < (us.length : Int)) = false := decide_eq_false (by omega)
    by_cases hB : us2.length ≤ 100
    · have hdB : decide ((100 : Int) < (us2.length : Int)) = false := decide_eq_false (by omega)
      have hla : us.length ≤ 300 := by omega
      have hlb : us2.length ≤ 300 := by omega
      have tok : True := trivial
      go_wp2_with (clear tok; refine bxS (s := s) rfl rfl rfl ?_; rintro g1 w1 b1 o1 l1)
      clear hdA hdB
      refine rgnM (Cls w1) [(0, true), (1, true), (3, true), (2, false), (4, false), (5, true), (6, true), (7, true), (8, true), (9, true)] (by kernel_rfl) (by kernel_rfl) Cls.refl ?_
      simp only [pickL, nth]
      refine mR _ rfl rfl rfl (fun w hC => hC.blk b1) Try.underlying26 rfl (info_sq _) ?_
      simp only [Act.put, List.setIfInBounds_toArray, List.set_cons_zero, List.set_cons_succ]
      iterate 2 (first | (refine mU rfl ?_; simp only [Act.put, List.setIfInBounds_toArray, List.set_cons_zero, List.set_cons_succ]) | (refine mW ?_ rfl rfl (fun w hC K hK => ?_) rfl ?_; rotate_left; (focus ((go_wp2_with fail) <;> exact hK)); simp only [Act.put, List.setIfInBounds_toArray, List.set_cons_zero, List.set_cons_succ]))
      refine mC (given_any _ B d us2 (HrB.out.then o1.drew) hlb) rfl (fun w => ?_) ?_
      · go_simp; try rfl
      rintro e w2 ⟨A2, c2, rfl, own2, o2, -⟩
      refine ⟨_, rfl, ((Only.refl [] _).drew.then o2), ?_⟩
      simp only [Act.put, List.setIfInBounds_toArray, List.set_cons_zero, List.set_cons_succ]
      have hS2 : Only [] w1 w2 := (Only.refl [] _).drew.then o2
      clear o2
      refine mC (Need_any _ s hI A2 c2 us2 wt (Reads.of_own own2)) rfl (fun w => ?_) ?_
      · go_simp; try rfl
      rintro e w3 ⟨rfl, o3⟩
      refine ⟨_, rfl, (hS2.then o3), ?_⟩
      simp only [Act.put, List.setIfInBounds_toArray, List.set_cons_zero, List.set_cons_succ]
      have hS3 : Only [] w1 w3 := hS2.then o3
      clear o3 hS2 own2
      repeat (first | (refine mU rfl ?_; simp only [Act.put, List.setIfInBounds_toArray, List.set_cons_zero, List.set_cons_succ]) | (refine mW ?_ rfl rfl (fun w hC K hK => ?_) rfl ?_; rotate_left; (focus ((go_wp2_with fail) <;> exact hK)); simp only [Act.put, List.setIfInBounds_toArray, List.set_cons_zero, List.set_cons_succ]))
      refine mN ?_
      have b3 := b1.only hS3 (by simp)
      have ho3 := o1.then hS3
      clear b1 o1 hS3
      go_wp2_with fail
      refine rgnM (Cls w3) [(0, true), (1, true), (3, true), (6, true), (2, false), (4, false), (5, false), (7, false), (8, true), (9, true), (10, true), (11, true), (12, true)] (by kernel_rfl) (by kernel_rfl) Cls.refl ?_
      simp only [pickL, nth]
      refine mR _ rfl rfl rfl (fun w hC => hC.blk b3) Try.underlying26 rfl (info_sq _) ?_
      simp only [Act.put, List.setIfInBounds_toArray, List.set_cons_zero, List.set_cons_succ]
      iterate 3 (first | (refine mU rfl ?_; simp only [Act.put, List.setIfInBounds_toArray, List.set_cons_zero, List.set_cons_succ]) | (refine mW ?_ rfl rfl (fun w hC K hK => ?_) rfl ?_; rotate_left; (focus ((go_wp2_with fail) <;> exact hK)); simp only [Act.put, List.setIfInBounds_toArray, List.set_cons_zero, List.set_cons_succ]))
      refine mC (given_any _ A c us (HrA.out.then ho3.drew) hla) rfl (fun w => ?_) ?_
      · go_simp; try rfl
      rintro e w4 ⟨A4, c4, rfl, own4, o4, f4⟩
      refine ⟨_, rfl, ((Only.refl [] _).drew.then o4), ?_⟩
      simp only [Act.put, List.setIfInBounds_toArray, List.set_cons_zero, List.set_cons_succ]
      have hS4 : Only [] w3 w4 := (Only.refl [] _).drew.then o4
      clear o4
      refine mC (given_any _ B d us2 (HrB.out.then (ho3.then hS4)) hlb) rfl (fun w => ?_) ?_
      · go_simp; try rfl
      rintro e w5 ⟨A5, c5, rfl, own5, o5, -⟩
      refine ⟨_, rfl, (hS4.then o5), ?_⟩
      simp only [Act.put, List.setIfInBounds_toArray, List.set_cons_zero, List.set_cons_succ]
      have hS5 : Only [] w3 w5 := hS4.then o5
      refine mX ?_
      refine wpList_app _ rfl _ _ 36 rfl 60 i0 (.agg (u4 ⟨0, 0, 0, 0⟩).toArray) 4 32 Try.underlying36 hi0 hz0 hz1 hz2 rfl (by decide) A4 us.length c4 (uV us) rfl (own_only own4 o5 (fun _ _ => List.not_mem_nil)) A5 us2.length c5 (uV us2) rfl (Reads.of_own own5) (uV_one us2) ?c3 ?c4 ?_
      case c3 => unfold maxLen; omega
      case c4 => omega
      intro A6 c6 w6 own6 o6 _
      have hS6 : Only [] w3 w6 := hS5.trans o6 f4
      refine mS hS6 ?_
      clear o6 f4 hS5 hS4 o5 own4 own5
      rw [← List.length_append, ← uV_append] at own6
      rw [← List.length_append]
      generalize hab : us ++ us2 = ab at own6 ⊢
      have Hab := Lib.hid hab
      clear hab
      simp only [Act.put, List.setIfInBounds_toArray, List.set_cons_zero, List.set_cons_succ]
      refine mC (Need_any _ s hI A6 c6 ab wt (Reads.of_own own6)) rfl (fun w => ?_) ?_
      · go_simp; try rfl
      rintro e w7 ⟨rfl, o7⟩
      refine ⟨_, rfl, (hS6.then o7), ?_⟩
      simp only [Act.put, List.setIfInBounds_toArray, List.set_cons_zero, List.set_cons_succ]
      have hS7 : Only [] w3 w7 := hS6.then o7
      clear o7 hS6 own6
      repeat (first | (refine mU rfl ?_; simp only [Act.put, List.setIfInBounds_toArray, List.set_cons_zero, List.set_cons_succ]) | (refine mW ?_ rfl rfl (fun w hC K hK => ?_) rfl ?_; rotate_left; (focus ((go_wp2_with fail) <;> exact hK)); simp only [Act.put, List.setIfInBounds_toArray, List.set_cons_zero, List.set_cons_succ]))
      refine mN ?_
      have b7 := b3.only hS7 (by simp)
      have ho7 := ho3.then hS7
      clear b3 ho3 hS7
      have hj := joins (s := s) hA hB wt
      rw [Hab.out] at hj
      generalize ned s us2 wt = N at hj ⊢
      generalize ned s ab wt = M at hj ⊢
      obtain ⟨n1, n2⟩ := N
      obtain ⟨m1, m2⟩ := M
      simp only at hj ⊢
      by_cases hn : n2 = 0
      · subst hn
        have Hj := Lib.hid (hj.2 rfl)
        clear hj
        go_wp2_with fail
        refine rgnM (Cls w7) [(0, true), (1, true), (3, true), (2, false), (4, false), (5, true), (6, true), (7, true), (8, true), (9, true)] (by kernel_rfl) (by kernel_rfl) Cls.refl ?_
        simp only [pickL, nth]
        refine mR _ rfl rfl rfl (fun w hC => hC.blk b7) Try.underlying26 rfl (info_sq _) ?_
        simp only [Act.put, List.setIfInBounds_toArray, List.set_cons_zero, List.set_cons_succ]
        iterate 2 (first | (refine mU rfl ?_; simp only [Act.put, List.setIfInBounds_toArray, List.set_cons_zero, List.set_cons_succ]) | (refine mW ?_ rfl rfl (fun w hC K hK => ?_) rfl ?_; rotate_left; (focus ((go_wp2_with fail) <;> exact hK)); simp only [Act.put, List.setIfInBounds_toArray, List.set_cons_zero, List.set_cons_succ]))
        refine mC (given_any _ A c us (HrA.out.then ho7.drew) hla) rfl (fun w => ?_) ?_
        · go_simp; try rfl
        rintro e w8 ⟨A8, c8, rfl, own8, o8, -⟩
        refine ⟨_, rfl, ((Only.refl [] _).drew.then o8), ?_⟩
        simp only [Act.put, List.setIfInBounds_toArray, List.set_cons_zero, List.set_cons_succ]
        have hS8 : Only [] w7 w8 := (Only.refl [] _).drew.then o8
        clear o8
        refine mC (Need_any _ s hI A8 c8 us n1 (Reads.of_own own8)) rfl (fun w => ?_) ?_
        · go_simp; try rfl
        rintro e w9 ⟨rfl, o9⟩
        refine ⟨_, rfl, (hS8.then o9), ?_⟩
        simp only [Act.put, List.setIfInBounds_toArray, List.set_cons_zero, List.set_cons_succ]
        have hS9 : Only [] w7 w9 := hS8.then o9
        clear o9 hS8 own8
        repeat (first | (refine mU rfl ?_; simp only [Act.put, List.setIfInBounds_toArray, List.set_cons_zero, List.set_cons_succ]) | (refine mW ?_ rfl rfl (fun w hC K hK => ?_) rfl ?_; rotate_left; (focus ((go_wp2_with fail) <;> exact hK)); simp only [Act.put, List.setIfInBounds_toArray, List.set_cons_zero, List.set_cons_succ]))
        refine mN ?_
        have ho9 := ho7.then hS9
        rw [Hj.out]
        go_wp2_with fail
        refine (awake_any _).mono ?_
        rintro e w5 ⟨rfl, o5⟩
        go_wp2_with fail
        go_ret
        exact ⟨rfl, ho9.then o5⟩
      · have hj' := hj.1 hn
        clear hj
        have hne : (n2 != 0) = true := by simpa using hn
        go_wp2_with fail
        refine (awake_any _).mono ?_
        rintro e w5 ⟨rfl, o5⟩
        rcases hj' with rfl | rfl
        · go_wp2_with fail
          go_ret
          exact ⟨rfl, ho7.then o5⟩
        · cases h1 : ((1 : Int) == n2) with
          | true =>
            go_wp2_with fail
            go_ret
            exact ⟨rfl, ho7.then o5⟩
          | false =>
            go_wp2_with fail
            go_ret
            exact ⟨rfl, ho7.then o5⟩
    · have hdB : decide ((100 : Int) < (us2.length : Int)) = true := decide_eq_true (by omega)
      have tok : True := trivial
      go_wp2_with (clear tok; refine bxS (s := s) rfl rfl rfl ?_; rintro g1 w1 b1 o1 l1)
      go_ret
      exact ⟨rfl, o1⟩
  · have hdA : decide ((100 : Int) < (us.length : Int)) = true := decide_eq_true (by omega)
    have tok : True := trivial
    go_wp2_with (clear tok; refine bxS (s := s) rfl rfl rfl ?_; rintro g1 w1 b1 o1 l1)
    go_ret
    exact ⟨rfl, o1⟩
end Go.Proofs.Ytmghfhjiodeaeaa.vbvJoins
