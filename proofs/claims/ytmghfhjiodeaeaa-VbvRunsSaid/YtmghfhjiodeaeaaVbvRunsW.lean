/- VbvRuns: the walk. -/
import Derived.Test.YtmghfhjiodeaeaaU12
import Derived.Test.YtmghfhjiodeaeaaVo
namespace Go.Proofs.Ytmghfhjiodeaeaa.vbvRuns
open Go.RowKit

theorem rn_len {s : Sq} : ∀ (us : List Un) (st : Int) {ls : List (Int × Int)}, rn s us st = .inl ls → ls.length = us.length
  | [], st, ls, h => by simp only [rn, Sum.inl.injEq] at h; subst h; rfl
  | x :: l, st, ls, h => by
    simp only [rn] at h
    split at h
    · cases h
    · cases hl : rn s l (aft s x st) with
      | inl a => rw [hl] at h; simp only [Sum.inl.injEq] at h; subst h; simp [rn_len l _ hl]
      | inr i => rw [hl] at h; cases h
theorem rnR_len {s : Sq} (us : List Un) (st : Int) : (rnR s us st).1.length ≤ us.length := by
  unfold rnR
  cases h : rn s us st with
  | inl a => simp [rn_len us st h]
  | inr i => simp
theorem runE_len {s : Sq} {us : List Un} {st : Int} {ns : List (Int × Int)} {r : Int} (h : runE s us st = (ns, r)) : ns.length ≤ 256 := by
  unfold runE at h
  split at h
  · have := (prp_true (by assumption)).2.2.2.1
    split at h
    · obtain ⟨rfl, _⟩ := Prod.mk.inj h; simp
    · obtain ⟨rfl, _⟩ := Prod.mk.inj h
      exact Nat.le_trans (rnR_len us st) this
  · obtain ⟨rfl, _⟩ := Prod.mk.inj h; simp
set_option maxHeartbeats 2000000 in
set_option maxRecDepth 100000 in
theorem walk (w : World) (s : Sq) (hI : SqI s) (A : Option Addr) (c : Nat) (us : List Un) (hr : Reads w A 4 us.length (uV us)) (_hc : us.length ≤ maxLen) (_hu : ∀ x ∈ us, UnI x) (st : Int) (_hw : -9223372036854775808 ≤ st ∧ st ≤ 9223372036854775807) :
    Calls Try.prog 7 #[.agg (sqA s), .slice A us.length c, .int .i64 st] w fun e w' => e = .returned (.bool true) ∧ Only [] w w' := by
  have Hr := Lib.hid hr
  clear hr _hu
  obtain ⟨ns, r, hR⟩ : ∃ ns r, runE s us st = (ns, r) := ⟨_, _, rfl⟩
  have hns := runE_len hR
  have HR := Lib.hid hR
  clear hR
  go_enter Try.func7, Try.ntmps7
  by_cases hlen : us.length ≤ 300
  · have hd : decide ((300 : Int) < (us.length : Int)) = false := decide_eq_false (by omega)
    have tok : True := trivial
    go_wp2_with (clear tok; refine bxS (s := s) rfl rfl rfl ?_; rintro g1 w1 b1 o1 l1)
    clear hd
    refine rgnM (Cls w1) [(0, true), (1, true), (3, true), (2, false), (4, false), (5, true), (6, true), (7, true), (8, true), (9, true)] (by kernel_rfl) (by kernel_rfl) Cls.refl ?_
    simp only [pickL, nth]
    refine mR _ rfl rfl rfl (fun w hC => hC.blk b1) Try.underlying26 rfl (info_sq _) ?_
    simp only [Act.put, List.setIfInBounds_toArray, List.set_cons_zero, List.set_cons_succ]
    iterate 2 (first | (refine mU rfl ?_; simp only [Act.put, List.setIfInBounds_toArray, List.set_cons_zero, List.set_cons_succ]) | (refine mW ?_ rfl rfl (fun w hC K hK => ?_) rfl ?_; rotate_left; (focus ((go_wp2_with fail) <;> exact hK)); simp only [Act.put, List.setIfInBounds_toArray, List.set_cons_zero, List.set_cons_succ]))
    refine mC (given_any _ A c us (Hr.out.then o1.drew) hlen) rfl (fun w => ?_) ?_
    · go_simp; try rfl
    rintro e w2 ⟨A2, c2, rfl, own2, o2, -⟩
    refine ⟨_, rfl, ((Only.refl [] _).drew.then o2), ?_⟩
    simp only [Act.put, List.setIfInBounds_toArray, List.set_cons_zero, List.set_cons_succ]
    have hS2 : Only [] w1 w2 := (Only.refl [] _).drew.then o2
    clear o2
    refine mC ((Run_any _ s hI A2 c2 us st (Reads.of_own own2)).mono fun e w' h => RunX.to HR.out h) rfl (fun w => ?_) ?_
    · go_simp; try rfl
    rintro e w3 ⟨Ap, cp, rfl, rp, o3⟩
    refine ⟨_, rfl, (hS2.then o3), ?_⟩
    simp only [Act.put, List.setIfInBounds_toArray, List.set_cons_zero, List.set_cons_succ]
    have hS3 : Only [] w1 w3 := hS2.then o3
    clear o3 hS2 own2
    repeat (first | (refine mU rfl ?_; simp only [Act.put, List.setIfInBounds_toArray, List.set_cons_zero, List.set_cons_succ]) | (refine mW ?_ rfl rfl (fun w hC K hK => ?_) rfl ?_; rotate_left; (focus ((go_wp2_with fail) <;> exact hK)); simp only [Act.put, List.setIfInBounds_toArray, List.set_cons_zero, List.set_cons_succ]))
    refine mN ?_
    have b3 := b1.only hS3 (by simp)
    have ho3 := o1.then hS3
    have Rp := Lib.hid rp
    clear b1 o1 hS3 rp
    have tok : True := trivial
    go_wp2_with (clear tok; refine ldS b3 rfl rfl rfl ?_)
    refine ((refRun_any _ s hI A c us st (Hr.out.then ho3)).mono fun e w' h => RunX.to HR.out h).mono ?_
    rintro e w4 ⟨Aq, cq, rfl, rq, o4⟩
    have ho4 := ho3.then o4
    have b4 := b3.only o4 (by simp)
    have Rp4 := Lib.hid (Rp.out.then o4)
    have Rq4 := Lib.hid rq
    clear o4 b3 ho3 rq Rp
    go_wp2_with fail
    refine rgnM (Cls w4) [(0, true), (1, true), (2, true), (3, true), (4, true), (5, true), (6, true), (7, true), (8, true), (9, true), (10, true), (11, true), (12, true), (14, true), (16, true), (17, true), (18, true), (13, false), (15, false), (19, false), (20, true), (21, true)] (by kernel_rfl) (by kernel_rfl) Cls.refl ?_
    simp only [pickL, nth]
    iterate 11 (first | (refine mU rfl ?_; simp only [Act.put, List.setIfInBounds_toArray, List.set_cons_zero, List.set_cons_succ]) | (refine mW ?_ rfl rfl (fun w hC K hK => ?_) rfl ?_; rotate_left; (focus ((go_wp2_with fail) <;> exact hK)); simp only [Act.put, List.setIfInBounds_toArray, List.set_cons_zero, List.set_cons_succ]))
    refine mR _ rfl rfl rfl (fun w hC => hC.blk b4) Try.underlying26 rfl (info_sq _) ?_
    simp only [Act.put, List.setIfInBounds_toArray, List.set_cons_zero, List.set_cons_succ]
    iterate 2 (first | (refine mU rfl ?_; simp only [Act.put, List.setIfInBounds_toArray, List.set_cons_zero, List.set_cons_succ]) | (refine mW ?_ rfl rfl (fun w hC K hK => ?_) rfl ?_; rotate_left; (focus ((go_wp2_with fail) <;> exact hK)); simp only [Act.put, List.setIfInBounds_toArray, List.set_cons_zero, List.set_cons_succ]))
    refine mR _ rfl rfl rfl (fun w hC => hC.blk b4) Try.underlying26 rfl (info_sq _) ?_
    simp only [Act.put, List.setIfInBounds_toArray, List.set_cons_zero, List.set_cons_succ]
    iterate 2 (first | (refine mU rfl ?_; simp only [Act.put, List.setIfInBounds_toArray, List.set_cons_zero, List.set_cons_succ]) | (refine mW ?_ rfl rfl (fun w hC K hK => ?_) rfl ?_; rotate_left; (focus ((go_wp2_with fail) <;> exact hK)); simp only [Act.put, List.setIfInBounds_toArray, List.set_cons_zero, List.set_cons_succ]))
    refine mC (given_any _ A c us (Hr.out.then ho4.drew) hlen) rfl (fun w => ?_) ?_
    · go_simp; try rfl
    rintro e w5 ⟨A5, c5, rfl, own5, o5, -⟩
    refine ⟨_, rfl, ((Only.refl [] _).drew.then o5), ?_⟩
    simp only [Act.put, List.setIfInBounds_toArray, List.set_cons_zero, List.set_cons_succ]
    have hS5 : Only [] w4 w5 := (Only.refl [] _).drew.then o5
    clear o5
    refine mC (First_any _ s hI A5 c5 us st (Reads.of_own own5)) rfl (fun w => ?_) ?_
    · go_simp; try rfl
    rintro e w6 ⟨rfl, o6⟩
    refine ⟨_, rfl, (hS5.then o6), ?_⟩
    simp only [Act.put, List.setIfInBounds_toArray, List.set_cons_zero, List.set_cons_succ]
    have hS6 : Only [] w4 w6 := hS5.then o6
    clear o6 hS5 own5
    refine mC (refFirst_any _ s hI A c us st (Hr.out.then (ho4.then hS6))) rfl (fun w => ?_) ?_
    · go_simp; try rfl
    rintro e w7 ⟨rfl, o7⟩
    refine ⟨_, rfl, (hS6.then o7), ?_⟩
    simp only [Act.put, List.setIfInBounds_toArray, List.set_cons_zero, List.set_cons_succ]
    have hS7 : Only [] w4 w7 := hS6.then o7
    clear o7 hS6
    repeat (first | (refine mU rfl ?_; simp only [Act.put, List.setIfInBounds_toArray, List.set_cons_zero, List.set_cons_succ]) | (refine mW ?_ rfl rfl (fun w hC K hK => ?_) rfl ?_; rotate_left; (focus ((go_wp2_with fail) <;> exact hK)); simp only [Act.put, List.setIfInBounds_toArray, List.set_cons_zero, List.set_cons_succ]))
    refine mN ?_
    have ho7 := ho4.then hS7
    have Rp7 := Lib.hid (Rp4.out.then hS7)
    have Rq7 := Lib.hid (Rq4.out.then hS7)
    clear hS7 Rp4 Rq4 b4 ho4
    go_wp2_with fail
    go_loopw [11] (fun i wr => ∃ k : Nat, k ≤ ns.length ∧ i = .int .i64 (k : Int) ∧ Only [] w7 wr) (fun i _ => ns.length - (intOf i).toNat)
    case atStart => exact ⟨0, Nat.zero_le _, rfl, Only.refl _ _⟩
    case round =>
      obtain ⟨k, hk, rfl, ho5⟩ := hrel
      by_cases hlt : k < ns.length
      · obtain ⟨x, hx⟩ : ∃ x, ns[k]? = some x := ⟨_, List.getElem?_eq_getElem hlt⟩
        obtain ⟨bp, offp, rfl, cP, cP1⟩ := (Rp7.out.then ho5).lev hx
        obtain ⟨bq, offq, rfl, cQ, cQ1⟩ := (Rq7.out.then ho5).lev hx
        have fP : ∀ w', Cls wr w' → w'.cell? ⟨bp, offp + k * 2, none⟩ = some (.int .i64 x.1) := fun w' h => h.cell cP
        have fQ : ∀ w', Cls wr w' → w'.cell? ⟨bq, offq + k * 2, none⟩ = some (.int .i64 x.1) := fun w' h => h.cell cQ
        have fP1 : ∀ w', Cls wr w' → w'.cell? ⟨bp, offp + k * 2 + 1, none⟩ = some (.int .i64 x.2) := fun w' h => h.cell cP1
        have fQ1 : ∀ w', Cls wr w' → w'.cell? ⟨bq, offq + k * 2 + 1, none⟩ = some (.int .i64 x.2) := fun w' h => h.cell cQ1
        clear cP cQ cP1 cQ1 hx
        have hkl : (k : Int) < (ns.length : Int) := by omega
        go_wp2_with fail
        refine rgn (Cls wr) (by kernel_rfl) (by kernel_rfl) Cls.refl ?_
        repeat (first | (refine qU rfl ?_; simp only [Act.put, List.setIfInBounds_toArray, List.set_cons_zero, List.set_cons_succ]) | (refine qW ?_ rfl rfl (fun w hC K hK => ?_) ?_; rotate_left; (focus ((go_wp2_with fail) <;> exact hK _ hC)); simp only [Act.put, List.setIfInBounds_toArray, List.set_cons_zero, List.set_cons_succ]))
        refine qN ?_
        intro w' hw'
        have ho6 := ho5.then hw'.only
        go_wp2_with fail
        go_roundw
        case rel => exact ⟨k + 1, by omega, by go_num, ho6⟩
        case measure => simp [intOf]; omega
      · go_wp2_with fail
        refine (awake_any _).mono ?_
        rintro e w5 ⟨rfl, o5⟩
        go_wp2_with fail
        go_ret
        exact ⟨rfl, (ho7.then ho5).then o5⟩
  · have hd : decide ((300 : Int) < (us.length : Int)) = true := decide_eq_true (by omega)
    have tok : True := trivial
    go_wp2_with (clear tok; refine bxS (s := s) rfl rfl rfl ?_; rintro g1 w1 b1 o1 l1)
    go_ret
    exact ⟨rfl, o1⟩
end Go.Proofs.Ytmghfhjiodeaeaa.vbvRuns
