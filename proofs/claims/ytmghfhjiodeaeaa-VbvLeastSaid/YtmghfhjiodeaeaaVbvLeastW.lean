/- VbvLeast: the walk. -/
import Derived.Test.YtmghfhjiodeaeaaU13
import Derived.Test.YtmghfhjiodeaeaaVo
namespace Go.Proofs.Ytmghfhjiodeaeaa.vbvLeast
open Go.RowKit

set_option maxHeartbeats 2000000 in
set_option maxRecDepth 100000 in
theorem walk (w : World) (s : Sq) (hI : SqI s) (A : Option Addr) (c : Nat) (us : List Un) (hr : Reads w A 4 us.length (uV us)) (_hc : us.length ≤ maxLen) (_hu : ∀ x ∈ us, UnI x) (wt : Int) (_hw : -9223372036854775808 ≤ wt ∧ wt ≤ 9223372036854775807) (st : Int) (_hs : -9223372036854775808 ≤ st ∧ st ≤ 9223372036854775807) :
    Calls Try.prog 8 #[.agg (sqA s), .slice A us.length c, .int .i64 wt, .int .i64 st] w fun e w' => e = .returned (.bool true) ∧ Only [] w w' := by
  have Hr := Lib.hid hr
  clear hr _hu
  go_enter Try.func8, Try.ntmps8
  by_cases hlen : us.length ≤ 100
  · have hd : decide ((100 : Int) < (us.length : Int)) = false := decide_eq_false (by omega)
    have tok : True := trivial
    go_wp2_with (clear tok; refine bxS (s := s) rfl rfl rfl ?_; rintro g1 w1 b1 o1 l1)
    clear hd
    refine (given_any _ A c us (Hr.out.then o1) (by omega)).mono ?_
    rintro e w2 ⟨A2, c2, rfl, own2, o2, -⟩
    have b2 := b1.only o2 (by simp)
    have ho2 := o1.then o2
    have R2 := Lib.hid (Reads.of_own own2)
    clear o1 o2 b1 own2
    have tok : True := trivial
    go_wp2_with (clear tok; refine ldS b2 rfl rfl rfl ?_)
    refine (Need_any _ s hI A2 c2 us wt R2.out).mono ?_
    rintro e w3 ⟨rfl, o3⟩
    have b3 := b2.only o3 (by simp)
    have ho3 := ho2.then o3
    have R3 := Lib.hid (R2.out.then o3)
    clear o3 b2 ho2 R2
    obtain ⟨n, ne, hN⟩ : ∃ n ne, ned s us wt = (n, ne) := ⟨_, _, rfl⟩
    rw [hN]
    have HN := Lib.hid hN
    clear hN
    simp only
    by_cases hne : ne = 0
    · subst hne
      by_cases hs0 : st < 0
      · go_wp2_with fail
        refine (awake_any _).mono ?_
        rintro e w99 ⟨rfl, o99⟩
        go_wp2_with fail
        go_ret
        exact ⟨rfl, (ho3).then o99⟩
      · have hs0' : 0 ≤ st := by omega
        have hsd : decide (st < 0) = false := decide_eq_false hs0
        clear hs0
        have tok : True := trivial
        go_wp2_with (clear tok; refine gldS b3 rfl rfl rfl ?_)
        clear hsd
        refine (Capacity_any _ s hI).mono ?_
        rintro e w4 ⟨rfl, o4⟩
        have b4 := b3.only o4 (by simp)
        have ho4 := ho3.then o4
        have R4 := Lib.hid (R3.out.then o4)
        clear o4 b3 ho3 R3
        by_cases hs1 : Cap s < st
        · go_wp2_with fail
          refine (awake_any _).mono ?_
          rintro e w99 ⟨rfl, o99⟩
          go_wp2_with fail
          go_ret
          exact ⟨rfl, (ho4).then o99⟩
        · have hs1' : st ≤ Cap s := by omega
          have hsd : decide (Cap s < st) = false := decide_eq_false hs1
          clear hs1
          have tok : True := trivial
          go_wp2_with (clear tok; refine ldS b4 rfl rfl rfl ?_)
          clear hsd
          refine (end_any _ s hI A2 c2 us st R4.out).mono ?_
          rintro e w5 ⟨rfl, o5⟩
          have ho5 := ho4.then o5
          clear o5 b4 ho4 R4
          have hL := (leastL HN.out hs0' hs1').2
          obtain ⟨f, fe, hE⟩ : ∃ f fe, endR s us st = (f, fe) := ⟨_, _, rfl⟩
          rw [hE] at hL ⊢
          clear hE HN hs1'
          simp only at hL ⊢
          have hcase : (n ≤ st ∧ fe = 0 ∧ wt ≤ f) ∨ (st < n ∧ fe = 0 ∧ f < wt) ∨ (st < n ∧ fe ≠ 0) := by
            by_cases h1 : n ≤ st
            · rw [decide_eq_true h1] at hL; simp at hL; exact .inl ⟨h1, hL.1, hL.2⟩
            · rw [decide_eq_false h1] at hL
              by_cases h2 : fe = 0
              · rw [decide_eq_true h2] at hL; simp at hL; exact .inr (.inl ⟨by omega, h2, by omega⟩)
              · exact .inr (.inr ⟨by omega, h2⟩)
          clear hL
          go_wp2_with fail
          refine (awake_any _).mono ?_
          rintro e w6 ⟨rfl, o6⟩
          rcases hcase with ⟨h1, rfl, h2⟩ | ⟨h1, rfl, h2⟩ | ⟨h1, h2⟩
          · go_wp2_with fail
            go_ret
            exact ⟨rfl, ho5.then o6⟩
          · have hd1 : decide (n ≤ st) = false := decide_eq_false (by omega)
            have hd2 : decide (wt ≤ f) = false := decide_eq_false (by omega)
            go_wp2_with fail
            go_ret
            exact ⟨rfl, ho5.then o6⟩
          · have hd1 : decide (n ≤ st) = false := decide_eq_false (by omega)
            have hd2 : (fe == 0) = false := by simpa using h2
            go_wp2_with fail
            go_ret
            exact ⟨rfl, ho5.then o6⟩
    · have hd1 : (ne != 0) = true := by simpa using hne
      clear hne
      go_wp2_with fail
      refine (awake_any _).mono ?_
      rintro e w99 ⟨rfl, o99⟩
      go_wp2_with fail
      go_ret
      exact ⟨rfl, (ho3).then o99⟩
  · have hd : decide ((100 : Int) < (us.length : Int)) = true := decide_eq_true (by omega)
    have tok : True := trivial
    go_wp2_with (clear tok; refine bxS (s := s) rfl rfl rfl ?_; rintro g1 w1 b1 o1 l1)
    go_ret
    exact ⟨rfl, o1⟩
end Go.Proofs.Ytmghfhjiodeaeaa.vbvLeast
