/- VbvMore: the walk. -/
import Derived.Test.YtmghfhjiodeaeaaU13
import Derived.Test.YtmghfhjiodeaeaaVo
namespace Go.Proofs.Ytmghfhjiodeaeaa.vbvMore
open Go.RowKit

set_option maxHeartbeats 4000000 in
set_option maxRecDepth 100000 in
theorem walk (w : World) (s : Sq) (hI : SqI s) (A : Option Addr) (c : Nat) (us : List Un) (hr : Reads w A 4 us.length (uV us)) (_hc : us.length ≤ maxLen) (_hu : ∀ x ∈ us, UnI x) (st : Int) (_hs : -9223372036854775808 ≤ st ∧ st ≤ 9223372036854775807) (mo : Int) (_hw : -9223372036854775808 ≤ mo ∧ mo ≤ 9223372036854775807) :
    Calls Try.prog 9 #[.agg (sqA s), .slice A us.length c, .int .i64 st, .int .i64 mo] w fun e w' => e = .returned (.bool true) ∧ Only [] w w' := by
  have Hr := Lib.hid hr
  clear hr _hu
  go_enter Try.func9, Try.ntmps9
  by_cases hlen : us.length ≤ 100
  · have hd : decide ((100 : Int) < (us.length : Int)) = false := decide_eq_false (by omega)
    by_cases hm0 : mo < 0
    · have tok : True := trivial
      go_wp2_with (clear tok; refine bxS (s := s) rfl rfl rfl ?_; rintro g1 w1 b1 o1 l1)
      refine (awake_any _).mono ?_
      rintro e w99 ⟨rfl, o99⟩
      go_wp2_with fail
      go_ret
      exact ⟨rfl, (o1).then o99⟩
    have hmd : decide (mo < 0) = false := decide_eq_false hm0
    have hm0' : 0 ≤ mo := by omega
    clear hm0
    have tok : True := trivial
    have tok2 : True := trivial
    go_wp2_with (first | (clear tok; refine bxS (s := s) rfl rfl rfl ?_; rintro g1 w1 b1 o1 l1) | (clear tok2; refine gldS b1 rfl rfl rfl ?_))
    clear hd hmd
    refine (refVs_any _ s hI).mono ?_
    rintro e w2 ⟨rfl, o2⟩
    have b2 := b1.only o2 (by simp)
    have ho2 := o1.then o2
    clear b1 o1 o2
    cases hv : vs s with
    | false =>
      clear hv
      go_wp2_with fail
      refine (awake_any _).mono ?_
      rintro e w99 ⟨rfl, o99⟩
      go_wp2_with fail
      go_ret
      exact ⟨rfl, (ho2).then o99⟩
    | true =>
    have hk := (vs_true.1 hv).ok
    have Hv := Lib.hid hv
    clear hv
    have hcap := cap_bd hk
    by_cases hs0 : st < 0
    · go_wp2_with fail
      refine (awake_any _).mono ?_
      rintro e w99 ⟨rfl, o99⟩
      go_wp2_with fail
      go_ret
      exact ⟨rfl, (ho2).then o99⟩
    have hs0' : 0 ≤ st := by omega
    have hsd : decide (st < 0) = false := decide_eq_false hs0
    clear hs0
    have tok : True := trivial
    go_wp2_with (clear tok; refine gldS b2 rfl rfl rfl ?_)
    clear hsd
    refine (Capacity_ok _ s hI Hv.out).mono ?_
    rintro e w3 ⟨rfl, o3⟩
    have b3 := b2.only o3 (by simp)
    have ho3 := ho2.then o3
    clear b2 ho2 o3
    by_cases hs1 : cap s < st
    · go_wp2_with fail
      refine (awake_any _).mono ?_
      rintro e w99 ⟨rfl, o99⟩
      go_wp2_with fail
      go_ret
      exact ⟨rfl, (ho3).then o99⟩
    have hs1' : st ≤ cap s := by omega
    have hsd : decide (cap s < st) = false := decide_eq_false hs1
    clear hs1
    have tok : True := trivial
    go_wp2_with (clear tok; refine gldS b3 rfl rfl rfl ?_)
    clear hsd
    refine (Capacity_ok _ s hI Hv.out).mono ?_
    rintro e w4 ⟨rfl, o4⟩
    have b4 := b3.only o4 (by simp)
    have ho4 := ho3.then o4
    clear b3 ho3 o4
    by_cases hmc : cap s - st < mo
    · go_wp2_with fail
      refine (awake_any _).mono ?_
      rintro e w99 ⟨rfl, o99⟩
      go_wp2_with fail
      go_ret
      exact ⟨rfl, (ho4).then o99⟩
    have hmc' : mo ≤ cap s - st := by omega
    have hsd : decide (cap s - st < mo) = false := decide_eq_false hmc
    clear hmc
    go_wp2_with fail
    clear hsd
    refine (given_any _ A c us (Hr.out.then ho4) (by omega)).mono ?_
    rintro e w5 ⟨A2, c2, rfl, own5, o5, -⟩
    have b5 := b4.only o5 (by simp)
    have ho5 := ho4.then o5
    have R5 := Lib.hid (Reads.of_own own5)
    clear o5 b4 ho4 own5
    have tok : True := trivial
    go_wp2_with (clear tok; refine ldS b5 rfl rfl rfl ?_)
    refine (end_any _ s hI A2 c2 us st R5.out).mono ?_
    rintro e w6 ⟨rfl, o6⟩
    have b6 := b5.only o6 (by simp)
    have ho6 := ho5.then o6
    have R6 := Lib.hid (R5.out.then o6)
    clear o6 b5 ho5 R5
    obtain ⟨f, fe, hE⟩ : ∃ f fe, endR s us st = (f, fe) := ⟨_, _, rfl⟩
    rw [hE]
    have HE := Lib.hid hE
    clear hE
    simp only
    by_cases hfe : fe = 0
    · subst hfe
      by_cases hne : us.length = 0
      · have hn2 : (us.length : Int) = 0 := by omega
        go_wp2_with fail
        refine (awake_any _).mono ?_
        rintro e w99 ⟨rfl, o99⟩
        go_wp2_with fail
        go_ret
        exact ⟨rfl, (ho6).then o99⟩
      have hn2 : ((us.length : Int) == 0) = false := by simpa using hne
      have hne' : us ≠ [] := fun h => hne (by rw [h]; rfl)
      have Hne := Lib.hid hne'
      clear hne'
      have tok : True := trivial
      go_wp2_with (clear tok; refine ldS b6 rfl rfl rfl ?_)
      clear hn2
      refine (Need_any _ s hI A2 c2 us 0 R6.out).mono ?_
      rintro e w7 ⟨rfl, o7⟩
      have b7 := b6.only o7 (by simp)
      have ho7 := ho6.then o7
      have R7 := Lib.hid (R6.out.then o7)
      clear o7 b6 ho6 R6
      obtain ⟨n, ne, hN⟩ : ∃ n ne, ned s us 0 = (n, ne) := ⟨_, _, rfl⟩
      rw [hN]
      have HN := Lib.hid hN
      clear hN
      simp only
      have tok : True := trivial
      go_wp2_with (clear tok; refine ldS b7 rfl rfl rfl ?_)
      refine (end_any _ s hI A2 c2 us (st + mo) R7.out).mono ?_
      rintro e w8 ⟨rfl, o8⟩
      have b8 := b7.only o8 (by simp)
      have ho8 := ho7.then o8
      clear o8 b7 ho7 R7
      by_cases hnz : ne = 0
      · subst hnz
        obtain ⟨m1, m2, m3, m4, m5⟩ := moreL Hv.out hs0' hm0' hmc' HE.out Hne.out HN.out
        generalize endR s us (st + mo) = G at m2 m3 ⊢
        obtain ⟨g, ge⟩ := G
        simp only at m2 m3 ⊢
        subst m2
        go_wp2_with fail
        refine (awake_any _).mono ?_
        rintro e w9 ⟨rfl, o9⟩
        have b9 := b8.only o9 (by simp)
        have cN := b9.sq.2.2.1
        have h16 := cst16 s
        have hnum := hk.num
        have h8 := c8_bd hk
        go_wp2_with fail
        go_ret
        exact ⟨rfl, ho8.then o9⟩
      · have hd1 : (ne != 0) = true := by simpa using hnz
        clear hnz
        go_wp2_with fail
        refine (awake_any _).mono ?_
        rintro e w99 ⟨rfl, o99⟩
        go_wp2_with fail
        go_ret
        exact ⟨rfl, (ho8).then o99⟩
    · have hd1 : (fe != 0) = true := by simpa using hfe
      clear hfe
      go_wp2_with fail
      refine (awake_any _).mono ?_
      rintro e w99 ⟨rfl, o99⟩
      go_wp2_with fail
      go_ret
      exact ⟨rfl, (ho6).then o99⟩
  · have hd : decide ((100 : Int) < (us.length : Int)) = true := decide_eq_true (by omega)
    have tok : True := trivial
    go_wp2_with (clear tok; refine bxS (s := s) rfl rfl rfl ?_; rintro g1 w1 b1 o1 l1)
    refine (awake_any _).mono ?_
    rintro e w99 ⟨rfl, o99⟩
    go_wp2_with fail
    go_ret
    exact ⟨rfl, (o1).then o99⟩
end Go.Proofs.Ytmghfhjiodeaeaa.vbvMore
