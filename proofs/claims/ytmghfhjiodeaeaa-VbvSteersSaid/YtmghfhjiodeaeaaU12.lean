/- Contracts of Run and First, both. -/
import Derived.Test.YtmghfhjiodeaeaaU11
namespace Go.Proofs.Ytmghfhjiodeaeaa
open Go.RowKit

def runE (s : Sq) (us : List Un) (st : Int) : List (Int × Int) × Int :=
  if prp s us st = true then (if 0 ≤ (rnR s us st).2 then ([], 9) else ((rnR s us st).1, 0)) else ([], 1)
def frs (s : Sq) (us : List Un) (st : Int) : Int := if prp s us st = true then (rnR s us st).2 else -1
section
variable {s : Sq} {us : List Un} {st : Int} {ls : List (Int × Int)} {bd : Int}
theorem runE_bad (h : prp s us st = false) : runE s us st = ([], 1) := by unfold runE; rw [if_neg (by simp [h])]
theorem runE_fail (h : prp s us st = true) (hR : rnR s us st = (ls, bd)) (hb : 0 ≤ bd) : runE s us st = ([], 9) := by unfold runE; rw [if_pos h, hR, if_pos hb]
theorem runE_ok (h : prp s us st = true) (hR : rnR s us st = (ls, bd)) (hb : ¬ 0 ≤ bd) : runE s us st = (ls, 0) := by unfold runE; rw [if_pos h, hR, if_neg hb]
theorem frs_bad (h : prp s us st = false) : frs s us st = -1 := by unfold frs; rw [if_neg (by simp [h])]
theorem frs_ok (h : prp s us st = true) (hR : rnR s us st = (ls, bd)) : frs s us st = bd := by unfold frs; rw [if_pos h, hR]
end
def RunX (s : Sq) (us : List Un) (st : Int) (w : World) (e : Ending) (w' : World) : Prop :=
  ∃ A c, e = .returned (.tuple #[.slice A (runE s us st).1.length c, .int .i64 (runE s us st).2]) ∧ Reads w' A 2 (runE s us st).1.length (lV (runE s us st).1) ∧ Only [] w w'
theorem RunX.of {s : Sq} {us : List Un} {st : Int} {w w' : World} {A : Option Addr} {c n : Nat} {ns : List (Int × Int)} {r : Int} (he : runE s us st = (ns, r)) (hn : n = ns.length) (hr : Reads w' A 2 n (lV ns)) (ho : Only [] w w') :
    RunX s us st w (.returned (.tuple #[.slice A n c, .int .i64 r])) w' := by
  subst hn
  unfold RunX
  rw [he]
  exact ⟨A, c, rfl, hr, ho⟩
theorem RunX.to {s : Sq} {us : List Un} {st : Int} {w w' : World} {e : Ending} {ns : List (Int × Int)} {r : Int} (h : runE s us st = (ns, r)) (hc : RunX s us st w e w') :
    ∃ A c, e = .returned (.tuple #[.slice A ns.length c, .int .i64 r]) ∧ Reads w' A 2 ns.length (lV ns) ∧ Only [] w w' := by
  unfold RunX at hc
  rwa [h] at hc
set_option maxHeartbeats 1000000 in
set_option maxRecDepth 100000 in
theorem Run_any (w : World) (s : Sq) (hI : SqI s) (A : Option Addr) (c : Nat) (us : List Un) (st : Int) (hr : Reads w A 4 us.length (uV us)) :
    Calls Try.prog 23 #[.agg (sqA s), .slice A us.length c, .int .i64 st] w (RunX s us st w) := by
  have Hr := Lib.hid hr
  clear hr
  go_enter Try.func23, Try.ntmps23
  have tok : True := trivial
  have tok2 : True := trivial
  have tok3 : True := trivial
  have tok4 : True := trivial
  have tok5 : True := trivial
  have tok6 : True := trivial
  go_wp2_with (first | (clear tok; refine bxS (s := s) rfl rfl rfl ?_; rintro g1 w1 b1 o1 l1) | (clear tok2; refine ldS b1 rfl rfl rfl ?_) | (clear tok3; refine bldB (s := s) rfl rfl rfl ?_) | (clear tok4; refine alBf rfl rfl ?_; rintro g2 w2 b2 o2 l2) | (clear tok5; refine srB (s' := s) b2 rfl rfl rfl rfl ?_; rintro w3 b3 o3 l3) | (clear tok6; refine ldB b3 rfl rfl rfl ?_))
  have ho3 : Only [] w w3 := o1.then (Only.own o2 o3 l2)
  refine (proper_any _ s hI _ c us st (Hr.out.then ho3)).mono ?_
  rintro e w4 ⟨rfl, o4⟩
  have ho := ho3.then o4
  have b4 := b3.only o4 (by simp)
  clear o1 o2 o3 o4 b1 b2 b3 ho3
  obtain ⟨ls, bd, hR⟩ : ∃ ls bd, rnR s us st = (ls, bd) := ⟨_, _, rfl⟩
  have HR := Lib.hid hR
  clear hR
  cases hp : prp s us st with
  | false =>
    have HE := Lib.hid (runE_bad hp)
    clear hp
    go_wp2_with fail
    go_ret2
    exact RunX.of HE.out rfl Reads.none_ ho
  | true =>
    obtain ⟨hv, hs0, hs1, hlen, hall⟩ := prp_true hp
    have hk := (vs_true.1 hv).ok
    have Hp := Lib.hid hp
    have Hall := Lib.hid hall
    have Hv := Lib.hid hv
    clear hp hv hall
    have tok : True := trivial
    go_wp2_with (clear tok; refine ldB b4 rfl rfl rfl ?_)
    refine ((run_any _ s hk A c us st (Hr.out.then ho) hs0 hs1 hlen Hall.out).mono fun e w' h => RunC.to HR.out h).mono ?_
    rintro e w5 ⟨Ar, cr, rfl, rr, o5⟩
    have ho5 := ho.then o5
    have Rr := Lib.hid rr
    clear rr o5 b4
    by_cases hb : 0 ≤ bd
    · have HE := Lib.hid (runE_fail Hp.out HR.out hb)
      go_wp2_with fail
      go_ret2
      exact RunX.of HE.out rfl Reads.none_ ho5
    · have HE := Lib.hid (runE_ok Hp.out HR.out hb)
      go_wp2_with fail
      go_ret2
      exact RunX.of HE.out rfl Rr.out ho5
set_option maxHeartbeats 1000000 in
set_option maxRecDepth 100000 in
theorem First_any (w : World) (s : Sq) (hI : SqI s) (A : Option Addr) (c : Nat) (us : List Un) (st : Int) (hr : Reads w A 4 us.length (uV us)) :
    Calls Try.prog 25 #[.agg (sqA s), .slice A us.length c, .int .i64 st] w fun e w' => e = .returned (.int .i64 (frs s us st)) ∧ Only [] w w' := by
  have Hr := Lib.hid hr
  clear hr
  go_enter Try.func25, Try.ntmps25
  have tok : True := trivial
  have tok2 : True := trivial
  have tok3 : True := trivial
  have tok4 : True := trivial
  have tok5 : True := trivial
  have tok6 : True := trivial
  go_wp2_with (first | (clear tok; refine bxS (s := s) rfl rfl rfl ?_; rintro g1 w1 b1 o1 l1) | (clear tok2; refine ldS b1 rfl rfl rfl ?_) | (clear tok3; refine bldB (s := s) rfl rfl rfl ?_) | (clear tok4; refine alBf rfl rfl ?_; rintro g2 w2 b2 o2 l2) | (clear tok5; refine srB (s' := s) b2 rfl rfl rfl rfl ?_; rintro w3 b3 o3 l3) | (clear tok6; refine ldB b3 rfl rfl rfl ?_))
  have ho3 : Only [] w w3 := o1.then (Only.own o2 o3 l2)
  refine (proper_any _ s hI _ c us st (Hr.out.then ho3)).mono ?_
  rintro e w4 ⟨rfl, o4⟩
  have ho := ho3.then o4
  have b4 := b3.only o4 (by simp)
  clear o1 o2 o3 o4 b1 b2 b3 ho3
  obtain ⟨ls, bd, hR⟩ : ∃ ls bd, rnR s us st = (ls, bd) := ⟨_, _, rfl⟩
  have HR := Lib.hid hR
  clear hR
  cases hp : prp s us st with
  | false =>
    have HE := Lib.hid (frs_bad hp)
    clear hp
    go_wp2_with fail
    go_ret
    exact ⟨by rw [HE.out]; rfl, ho⟩
  | true =>
    obtain ⟨hv, hs0, hs1, hlen, hall⟩ := prp_true hp
    have hk := (vs_true.1 hv).ok
    have Hp := Lib.hid hp
    have Hall := Lib.hid hall
    have Hv := Lib.hid hv
    clear hp hv hall
    have tok : True := trivial
    go_wp2_with (clear tok; refine ldB b4 rfl rfl rfl ?_)
    refine ((run_any _ s hk A c us st (Hr.out.then ho) hs0 hs1 hlen Hall.out).mono fun e w' h => RunC.to HR.out h).mono ?_
    rintro e w5 ⟨Ar, cr, rfl, rr, o5⟩
    have ho5 := ho.then o5
    have Rr := Lib.hid rr
    clear rr o5 b4
    have HE := Lib.hid (frs_ok Hp.out HR.out)
    clear Rr
    go_wp2_with fail
    go_ret
    exact ⟨by rw [HE.out]; rfl, ho5⟩
set_option maxHeartbeats 1000000 in
set_option maxRecDepth 100000 in
theorem refRun_any (w : World) (s : Sq) (hI : SqI s) (A : Option Addr) (c : Nat) (us : List Un) (st : Int) (hr : Reads w A 4 us.length (uV us)) :
    Calls Try.prog 24 #[.agg (sqA s), .slice A us.length c, .int .i64 st] w (RunX s us st w) := by
  have Hr := Lib.hid hr
  clear hr
  go_enter Try.func24, Try.ntmps24
  have tok : True := trivial
  have tok2 : True := trivial
  go_wp2_with (first | (clear tok; refine bxS (s := s) rfl rfl rfl ?_; rintro g1 w1 b1 o1 l1) | (clear tok2; refine ldS b1 rfl rfl rfl ?_))
  refine (refProper_any _ s hI _ c us st (Hr.out.then o1)).mono ?_
  rintro e w4 ⟨rfl, o4⟩
  have ho := o1.then o4
  have b4 := b1.only o4 (by simp)
  clear o1 o4 b1
  obtain ⟨ls, bd, hR⟩ : ∃ ls bd, rnR s us st = (ls, bd) := ⟨_, _, rfl⟩
  have HR := Lib.hid hR
  clear hR
  cases hp : prp s us st with
  | false =>
    have HE := Lib.hid (runE_bad hp)
    clear hp
    go_wp2_with fail
    go_ret2
    exact RunX.of HE.out rfl Reads.none_ ho
  | true =>
    obtain ⟨hv, hs0, hs1, hlen, hall⟩ := prp_true hp
    have hk := (vs_true.1 hv).ok
    have Hp := Lib.hid hp
    have Hall := Lib.hid hall
    have Hv := Lib.hid hv
    clear hp hv hall
    have tok : True := trivial
    go_wp2_with (clear tok; refine ldS b4 rfl rfl rfl ?_)
    refine ((ran_any _ s hI Hv.out A c us st (Hr.out.then ho) hs0 hs1 hlen Hall.out).mono fun e w' h => RunC.to HR.out h).mono ?_
    rintro e w5 ⟨Ar, cr, rfl, rr, o5⟩
    have ho5 := ho.then o5
    have Rr := Lib.hid rr
    clear rr o5 b4
    by_cases hb : 0 ≤ bd
    · have HE := Lib.hid (runE_fail Hp.out HR.out hb)
      go_wp2_with fail
      go_ret2
      exact RunX.of HE.out rfl Reads.none_ ho5
    · have HE := Lib.hid (runE_ok Hp.out HR.out hb)
      go_wp2_with fail
      go_ret2
      exact RunX.of HE.out rfl Rr.out ho5
set_option maxHeartbeats 1000000 in
set_option maxRecDepth 100000 in
theorem refFirst_any (w : World) (s : Sq) (hI : SqI s) (A : Option Addr) (c : Nat) (us : List Un) (st : Int) (hr : Reads w A 4 us.length (uV us)) :
    Calls Try.prog 26 #[.agg (sqA s), .slice A us.length c, .int .i64 st] w fun e w' => e = .returned (.int .i64 (frs s us st)) ∧ Only [] w w' := by
  have Hr := Lib.hid hr
  clear hr
  go_enter Try.func26, Try.ntmps26
  have tok : True := trivial
  have tok2 : True := trivial
  go_wp2_with (first | (clear tok; refine bxS (s := s) rfl rfl rfl ?_; rintro g1 w1 b1 o1 l1) | (clear tok2; refine ldS b1 rfl rfl rfl ?_))
  refine (refProper_any _ s hI _ c us st (Hr.out.then o1)).mono ?_
  rintro e w4 ⟨rfl, o4⟩
  have ho := o1.then o4
  have b4 := b1.only o4 (by simp)
  clear o1 o4 b1
  obtain ⟨ls, bd, hR⟩ : ∃ ls bd, rnR s us st = (ls, bd) := ⟨_, _, rfl⟩
  have HR := Lib.hid hR
  clear hR
  cases hp : prp s us st with
  | false =>
    have HE := Lib.hid (frs_bad hp)
    clear hp
    go_wp2_with fail
    go_ret
    exact ⟨by rw [HE.out]; rfl, ho⟩
  | true =>
    obtain ⟨hv, hs0, hs1, hlen, hall⟩ := prp_true hp
    have hk := (vs_true.1 hv).ok
    have Hp := Lib.hid hp
    have Hall := Lib.hid hall
    have Hv := Lib.hid hv
    clear hp hv hall
    have tok : True := trivial
    go_wp2_with (clear tok; refine ldS b4 rfl rfl rfl ?_)
    refine ((ran_any _ s hI Hv.out A c us st (Hr.out.then ho) hs0 hs1 hlen Hall.out).mono fun e w' h => RunC.to HR.out h).mono ?_
    rintro e w5 ⟨Ar, cr, rfl, rr, o5⟩
    have ho5 := ho.then o5
    have Rr := Lib.hid rr
    clear rr o5 b4
    have HE := Lib.hid (frs_ok Hp.out HR.out)
    clear Rr
    go_wp2_with fail
    go_ret
    exact ⟨by rw [HE.out]; rfl, ho5⟩
end Go.Proofs.Ytmghfhjiodeaeaa
