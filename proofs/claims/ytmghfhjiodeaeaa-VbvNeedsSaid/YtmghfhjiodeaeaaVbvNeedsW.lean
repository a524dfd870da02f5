/- VbvNeeds: the walk. -/
import Derived.Test.YtmghfhjiodeaeaaU7
import Derived.Test.YtmghfhjiodeaeaaVo
namespace Go.Proofs.Ytmghfhjiodeaeaa.vbvNeeds
open Go.RowKit

set_option maxHeartbeats 2000000 in
set_option maxRecDepth 100000 in
theorem walk (w : World) (s : Sq) (hI : SqI s) (A : Option Addr) (c : Nat) (us : List Un) (hr : Reads w A 4 us.length (uV us)) (_hc : us.length ≤ maxLen) (_hu : ∀ x ∈ us, UnI x) (wt : Int) (_hw : -9223372036854775808 ≤ wt ∧ wt ≤ 9223372036854775807) :
    Calls Try.prog 4 #[.agg (sqA s), .slice A us.length c, .int .i64 wt] w fun e w' => e = .returned (.bool true) ∧ Only [] w w' := by
  have Hr := Lib.hid hr
  clear hr _hu
  go_enter Try.func4, Try.ntmps4
  by_cases hlen : us.length ≤ 300
  · have hd : decide ((300 : Int) < (us.length : Int)) = false := decide_eq_false (by omega)
    have tok : True := trivial
    go_wp2_with (clear tok; refine bxS (s := s) rfl rfl rfl ?_; rintro g1 w1 b1 o1 l1)
    clear hd
    refine rgnM (Cls w1) [(0, true), (1, true), (3, true), (2, false), (4, false), (5, true), (6, true), (7, true), (8, true), (9, true)] (by kernel_rfl) (by kernel_rfl) Cls.refl ?_
    simp only [pickL, nth]
    refine mR _ rfl rfl rfl (fun w hC => hC.blk b1) Try.underlying26 rfl (info_sq _) ?_
    simp only [Act.put, List.setIfInBounds_toArray, List.set_cons_zero, List.set_cons_succ]
    iterate 2 (first | (refine mU rfl ?_; simp only [Act.put, List.setIfInBounds_toArray, List.set_cons_zero, List.set_cons_succ]) | (refine mW ?_ rfl rfl (fun w hC K hK => ?_) rfl ?_; rotate_left; (focus ((go_wp2_with fail) <;> exact hK)); simp only [Act.put, List.setIfInBounds_toArray, List.set_cons_zero, List.set_cons_succ]))
    refine mC (given_any _ A c us (Hr.out.then o1.drew) hlen) rfl (fun w => ?_) ?_
    · go_simp; try rfl
    rintro e w2 ⟨A2, c2, rfl, own2, o2, -⟩
    refine ⟨_, rfl, ((Only.refl [] _).drew.then o2), ?_⟩
    simp only [Act.put, List.setIfInBounds_toArray, List.set_cons_zero, List.set_cons_succ]
    have hS2 : Only [] w1 w2 := (Only.refl [] _).drew.then o2
    clear o2
    refine mC (Need_any _ s hI A2 c2 us wt (Reads.of_own own2)) rfl (fun w => ?_) ?_
    · go_simp; try rfl
    rintro e w3 ⟨rfl, o3⟩
    refine ⟨_, rfl, (hS2.then o3), ?_⟩
    simp only [Act.put, List.setIfInBounds_toArray, List.set_cons_zero, List.set_cons_succ]
    have hS3 : Only [] w1 w3 := hS2.then o3
    clear o3 hS2 own2
    repeat (first | (refine mU rfl ?_; simp only [Act.put, List.setIfInBounds_toArray, List.set_cons_zero, List.set_cons_succ]) | (refine mW ?_ rfl rfl (fun w hC K hK => ?_) rfl ?_; rotate_left; (focus ((go_wp2_with fail) <;> exact hK)); simp only [Act.put, List.setIfInBounds_toArray, List.set_cons_zero, List.set_cons_succ]))
    refine mN ?_
    have b3 := b1.only hS3 (by simp)
    have ho3 := o1.then hS3
    clear b1 o1 hS3
    have tok : True := trivial
    go_wp2_with (clear tok; refine ldS b3 rfl rfl rfl ?_)
    refine (refNeed_any _ s hI A c us wt (Hr.out.then ho3)).mono ?_
    rintro e w4 ⟨rfl, o4⟩
    have ho4 := ho3.then o4
    clear o4 b3 ho3
    go_wp2_with fail
    refine (awake_any _).mono ?_
    rintro e w5 ⟨rfl, o5⟩
    go_wp2_with fail
    go_ret
    exact ⟨rfl, ho4.then o5⟩
  · have hd : decide ((300 : Int) < (us.length : Int)) = true := decide_eq_true (by omega)
    have tok : True := trivial
    go_wp2_with (clear tok; refine bxS (s := s) rfl rfl rfl ?_; rintro g1 w1 b1 o1 l1)
    go_ret
    exact ⟨rfl, o1⟩
end Go.Proofs.Ytmghfhjiodeaeaa.vbvNeeds
