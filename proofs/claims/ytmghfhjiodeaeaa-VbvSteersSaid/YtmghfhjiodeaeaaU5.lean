/- Contract of the reference's 'Proper'. -/
import Derived.Test.YtmghfhjiodeaeaaU4
namespace Go.Proofs.Ytmghfhjiodeaeaa
open Go.RowKit

set_option maxHeartbeats 1000000 in
set_option maxRecDepth 100000 in
theorem refProper_any (w : World) (s : Sq) (hI : SqI s) (A : Option Addr) (c : Nat) (us : List Un) (st : Int) (hr : Reads w A 4 us.length (uV us)) :
    Calls Try.prog 36 #[.agg (sqA s), .slice A us.length c, .int .i64 st] w fun e w' => e = .returned (.bool (prp s us st)) ∧ Only [] w w' := by
  have Hr := Lib.hid hr
  clear hr
  go_enter Try.func36, Try.ntmps36
  have tok : True := trivial
  have tok2 : True := trivial
  go_wp2_with (first | (clear tok; refine bxS (s := s) rfl rfl rfl ?_; rintro g1 w1 b1 o1 l1) | (clear tok2; refine gldT b1 rfl rfl rfl Try.underlying26 rfl (info_sq _) ?_))
  refine (refVs_any _ s hI).mono ?_
  rintro e w2 ⟨rfl, o2⟩
  have ho := o1.then o2
  have b2 := b1.only o2 (by simp)
  clear o1 o2 b1
  cases hv : vs s with
  | false =>
    have HE := Lib.hid (prp_vs (us := us) (st := st) hv)
    clear hv
    go_wp2_with fail
    go_ret
    exact ⟨congrArg (fun b => Ending.returned (Value.bool b)) HE.out.symm, ho⟩
  | true =>
    have hk := (vs_true.1 hv).ok
    have Hv := Lib.hid hv
    clear hv
    by_cases h0 : st < 0
    · have HE := Lib.hid (prp_lo (s := s) (us := us) h0)
      go_wp2_with fail
      go_ret
      exact ⟨congrArg (fun b => Ending.returned (Value.bool b)) HE.out.symm, ho⟩
    · have h0' : 0 ≤ st := by omega
      have hd0 : decide (st < 0) = false := decide_eq_false h0
      clear h0
      have tok3 : True := trivial
      go_wp2_with (clear tok3; refine gldT b2 rfl rfl rfl Try.underlying26 rfl (info_sq _) ?_)
      refine (refCapacity_any _ s hI).mono ?_
      rintro e w3 ⟨rfl, o3⟩
      rw [show Cap s = cap s from by unfold Cap; simp [Hv.out]]
      have ho3 := ho.then o3
      clear o3 ho b2
      by_cases h1 : cap s < st
      · have HE := Lib.hid (prp_hi (us := us) h1)
        go_wp2_with fail
        go_ret
        exact ⟨congrArg (fun b => Ending.returned (Value.bool b)) HE.out.symm, ho3⟩
      · have h1' : st ≤ cap s := by omega
        have hd1 : decide (cap s < st) = false := decide_eq_false h1
        clear h1
        by_cases h2 : 256 < us.length
        · have HE := Lib.hid (prp_len (s := s) (st := st) h2)
          have h2' : (256 : Int) < (us.length : Int) := by omega
          clear h2
          go_wp2_with fail
          go_ret
          exact ⟨congrArg (fun b => Ending.returned (Value.bool b)) HE.out.symm, ho3⟩
        · have HE := Lib.hid (prp_all (us := us) Hv.out h0' h1' (by omega))
          have h2' : (us.length : Int) ≤ 256 := by omega
          have hd2 : decide ((256 : Int) < (us.length : Int)) = false := decide_eq_false (by omega)
          clear h2
          go_wp2_with fail
          clear h0' h1' hd0 hd1 hd2
          go_loopw [7] (fun i wr => ∃ k : Nat, k ≤ us.length ∧ i = .int .i64 (k : Int) ∧ Hid ((us.take k).all uok = true) ∧ Only [] w wr) (fun i _ => us.length - (intOf i).toNat)
          case atStart => exact ⟨0, Nat.zero_le _, rfl, rfl, ho3⟩
          case round =>
            obtain ⟨k, hk, rfl, Hk, ho4⟩ := hrel
            by_cases hlt : k < us.length
            · obtain ⟨x, hx⟩ : ∃ x, us[k]? = some x := ⟨_, List.getElem?_eq_getElem hlt⟩
              obtain ⟨b, off, rfl, _, _, c2, c3⟩ := (Hr.out.then ho4).un rfl hx
              have Hx := Lib.hid hx
              have hkl : (k : Int) < (us.length : Int) := by omega
              clear hx
              rcases uok_case x with ⟨hu, e1, e2, he⟩ | ⟨hu, he⟩
              · have Hk1 := Lib.hid ((all_take Hx.out).trans (by rw [Hk.out, hu]))
                clear hu
                rcases he with e3 | ⟨e3, e4⟩
                all_goals
                  go_wp2_with fail
                  go_roundw
                  case rel => exact ⟨k + 1, by omega, by go_num, Hk1, ho4⟩
                  case measure => simp [intOf]; omega
              · have HF := Lib.hid (all_false Hx.out hu)
                clear hu
                rcases he with e1 | ⟨e1, e2⟩ | ⟨e1, e2, e3, e4⟩
                all_goals
                  go_wp2_with fail
                  go_ret
                  exact ⟨congrArg (fun b => Ending.returned (Value.bool b)) (HE.out.trans HF.out).symm, ho4⟩
            · have hke : k = us.length := by omega
              subst hke
              have HF := Lib.hid (show us.all uok = true by have := Hk.out; rwa [List.take_length] at this)
              go_wp2_with fail
              go_ret
              exact ⟨congrArg (fun b => Ending.returned (Value.bool b)) (HE.out.trans HF.out).symm, ho4⟩
end Go.Proofs.Ytmghfhjiodeaeaa
