/- VbvPads: the walk. -/
import Derived.Test.YtmghfhjiodeaeaaP3
import Derived.Test.YtmghfhjiodeaeaaVo
namespace Go.Proofs.Ytmghfhjiodeaeaa.vbvPads
open Go.RowKit

set_option maxHeartbeats 2000000 in
set_option maxRecDepth 100000 in
theorem walk (w : World) (s : Sq) (hI : SqI s) (A : Option Addr) (c : Nat) (us : List Un) (hr : Reads w A 4 us.length (uV us)) (_hc : us.length ≤ maxLen) (_hu : ∀ x ∈ us, UnI x) (st : Int) (_hw : -9223372036854775808 ≤ st ∧ st ≤ 9223372036854775807) :
    Calls Try.prog 6 #[.agg (sqA s), .slice A us.length c, .int .i64 st] w fun e w' => e = .returned (.bool true) ∧ Only [] w w' := by
  have Hr := Lib.hid hr
  clear hr _hu
  obtain ⟨ns, r, hR⟩ : ∃ ns r, padR s us st = (ns, r) := ⟨_, _, rfl⟩
  have hns := (padR_len hR).1
  have HR := Lib.hid hR
  clear hR
  go_enter Try.func6, Try.ntmps6
  by_cases hlen : us.length ≤ 300
  · have hd : decide ((300 : Int) < (us.length : Int)) = false := decide_eq_false (by omega)
    have tok : True := trivial
    go_wp2_with (clear tok; refine bxS (s := s) rfl rfl rfl ?_; rintro g1 w1 b1 o1 l1)
    clear hd
    refine rgnM (Cls w1) [(0, true), (1, true), (3, true), (2, false), (4, false), (5, true), (6, true), (7, true), (8, true), (9, true)] (by kernel_rfl) (by kernel_rfl) Cls.refl ?_
    simp only [pickL, nth]
    refine mR _ rfl rfl rfl (fun w hC => hC.blk b1) Try.underlying26 rfl (info_sq _) ?_
    simp only [Act.put, List.setIfInBounds_toArray, List.set_cons_zero, List.set_cons_succ]
    iterate 2 (first | (refine mU rfl ?_; simp only [Act.put, List.setIfInBounds_toArray, List.set_cons_zero, List.set_cons_succ]) | (refine mW ?_ rfl rfl (fun w hC K hK => ?_) rfl ?_; rotate_left; (focus ((go_wp2_with fail) <;> exact hK)); simp only [Act.put, List.setIfInBounds_toArray, List.set_cons_zero, List.set_cons_succ]))
    refine mC (given_any _ A c us (Hr.out.then o1.drew) hlen) rfl (fun w => ?_) ?_
    · go_simp; try rfl
    rintro e w2 ⟨A2, c2, rfl, own2, o2, -⟩
    refine ⟨_, rfl, ((Only.refl [] _).drew.then o2), ?_⟩
    simp only [Act.put, List.setIfInBounds_toArray, List.set_cons_zero, List.set_cons_succ]
    have hS2 : Only [] w1 w2 := (Only.refl [] _).drew.then o2
    clear o2
    refine mC ((Pad_any _ s hI A2 c2 us st (Reads.of_own own2)).mono fun e w' h => PadC.to HR.out h) rfl (fun w => ?_) ?_
    · go_simp; try rfl
    rintro e w3 ⟨Ap, cp, rfl, rp, o3⟩
    refine ⟨_, rfl, (hS2.then o3), ?_⟩
    simp only [Act.put, List.setIfInBounds_toArray, List.set_cons_zero, List.set_cons_succ]
    have hS3 : Only [] w1 w3 := hS2.then o3
    clear o3 hS2 own2
    repeat (first | (refine mU rfl ?_; simp only [Act.put, List.setIfInBounds_toArray, List.set_cons_zero, List.set_cons_succ]) | (refine mW ?_ rfl rfl (fun w hC K hK => ?_) rfl ?_; rotate_left; (focus ((go_wp2_with fail) <;> exact hK)); simp only [Act.put, List.setIfInBounds_toArray, List.set_cons_zero, List.set_cons_succ]))
    refine mN ?_
    have b3 := b1.only hS3 (by simp)
    have ho3 := o1.then hS3
    have Rp := Lib.hid rp
    clear b1 o1 hS3 rp
    have tok : True := trivial
    go_wp2_with (clear tok; refine ldS b3 rfl rfl rfl ?_)
    refine ((refPad_any _ s hI A c us st (Hr.out.then ho3)).mono fun e w' h => PadC.to HR.out h).mono ?_
    rintro e w4 ⟨Aq, cq, rfl, rq, o4⟩
    have ho4 := ho3.then o4
    have Rp4 := Lib.hid (Rp.out.then o4)
    have Rq4 := Lib.hid rq
    clear o4 b3 ho3 rq Rp
    go_wp2_with fail
    go_loopw [11] (fun i wr => ∃ k : Nat, k ≤ ns.length ∧ i = .int .i64 (k : Int) ∧ Only [] w4 wr) (fun i _ => ns.length - (intOf i).toNat)
    case atStart => exact ⟨0, Nat.zero_le _, rfl, Only.refl _ _⟩
    case round =>
      obtain ⟨k, hk, rfl, ho5⟩ := hrel
      by_cases hlt : k < ns.length
      · obtain ⟨x, hx⟩ : ∃ x, ns[k]? = some x := ⟨_, List.getElem?_eq_getElem hlt⟩
        obtain ⟨bp, offp, rfl, cP⟩ := (Rp4.out.then ho5).int hx
        obtain ⟨bq, offq, rfl, cQ⟩ := (Rq4.out.then ho5).int hx
        have fP : ∀ w', Cls wr w' → w'.cell? ⟨bp, offp + k, none⟩ = some (.int .i64 x) := fun w' h => h.cell cP
        have fQ : ∀ w', Cls wr w' → w'.cell? ⟨bq, offq + k, none⟩ = some (.int .i64 x) := fun w' h => h.cell cQ
        clear cP cQ hx
        have hkl : (k : Int) < (ns.length : Int) := by omega
        go_wp2_with fail
        refine rgn (Cls wr) (by kernel_rfl) (by kernel_rfl) Cls.refl ?_
        repeat (first | (refine qU rfl ?_; simp only [Act.put, List.setIfInBounds_toArray, List.set_cons_zero, List.set_cons_succ]) | (refine qW ?_ rfl rfl (fun w hC K hK => ?_) ?_; rotate_left; (focus ((go_wp2_with fail) <;> exact hK _ hC)); simp only [Act.put, List.setIfInBounds_toArray, List.set_cons_zero, List.set_cons_succ]))
        refine qN ?_
        intro w' hw'
        have ho6 := ho5.then hw'.only
        go_wp2_with fail
        go_roundw
        case rel => exact ⟨k + 1, by omega, by go_num, ho6⟩
        case measure => simp [intOf]; omega
      · go_wp2_with fail
        refine (awake_any _).mono ?_
        rintro e w5 ⟨rfl, o5⟩
        go_wp2_with fail
        go_ret
        exact ⟨rfl, (ho4.then ho5).then o5⟩
  · have hd : decide ((300 : Int) < (us.length : Int)) = true := decide_eq_true (by omega)
    have tok : True := trivial
    go_wp2_with (clear tok; refine bxS (s := s) rfl rfl rfl ?_; rintro g1 w1 b1 o1 l1)
    go_ret
    exact ⟨rfl, o1⟩
end Go.Proofs.Ytmghfhjiodeaeaa.vbvPads
