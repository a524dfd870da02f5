/- Contract of the reference's Need. -/
import Derived.Test.YtmghfhjiodeaeaaU6
namespace Go.Proofs.Ytmghfhjiodeaeaa
open Go.RowKit

theorem Cap_ok {s : Sq} (h : vs s = true) : Cap s = cap s := by unfold Cap; rw [if_pos h]
theorem Cst_ok {s : Sq} (h : vs s = true) {b : Int} (hb : 0 ≤ b ∧ b ≤ 8388608) : Cst s b = cst s b := by unfold Cst; rw [if_pos ⟨h, hb⟩]
theorem Arl_ok {s : Sq} (h : vs s = true) {f : Int} (hf : 0 ≤ f ∧ f ≤ 3) : Arl s f = arl s f := by unfold Arl; rw [if_pos ⟨h, hf⟩]
theorem refCap_ok (w : World) (s : Sq) (hI : SqI s) (h : vs s = true) : Calls Try.prog 13 #[.agg (sqA s)] w fun e w' => e = .returned (.int .i64 (cap s)) ∧ Only [] w w' := by
  have := refCapacity_any w s hI
  rwa [Cap_ok h] at this
theorem refCost_ok (w : World) (s : Sq) (hI : SqI s) (h : vs s = true) (b : Int) (hb : 0 ≤ b ∧ b ≤ 8388608) : Calls Try.prog 17 #[.agg (sqA s), .int .i64 b] w fun e w' => e = .returned (.int .i64 (cst s b)) ∧ Only [] w w' := by
  have := refCost_any w s hI b
  rwa [Cst_ok h hb] at this
theorem refArr_ok (w : World) (s : Sq) (hI : SqI s) (h : vs s = true) (f : Int) (hf : 0 ≤ f ∧ f ≤ 3) : Calls Try.prog 15 #[.agg (sqA s), .int .i64 f] w fun e w' => e = .returned (.int .i64 (arl s f)) ∧ Only [] w w' := by
  have := refArrival_any w s hI f
  rwa [Arl_ok h hf] at this
theorem cst8 (s : Sq) : 8 * (2 * s.num) = cst s 8 := by unfold cst; omega
set_option maxHeartbeats 1000000 in
set_option maxRecDepth 100000 in
theorem refNeed_any (w : World) (s : Sq) (hI : SqI s) (A : Option Addr) (c : Nat) (us : List Un) (wt : Int) (hr : Reads w A 4 us.length (uV us)) :
    Calls Try.prog 20 #[.agg (sqA s), .slice A us.length c, .int .i64 wt] w fun e w' => e = .returned (.tuple #[.int .i64 (ned s us wt).1, .int .i64 (ned s us wt).2]) ∧ Only [] w w' := by
  have Hr := Lib.hid hr
  clear hr
  go_enter Try.func20, Try.ntmps20
  have tok : True := trivial
  have tok2 : True := trivial
  go_wp2_with (first | (clear tok; refine bxS (s := s) rfl rfl rfl ?_; rintro g1 w1 b1 o1 l1) | (clear tok2; refine ldS b1 rfl rfl rfl ?_))
  refine (refProper_any _ s hI _ c us 0 (Hr.out.then o1)).mono ?_
  rintro e w2 ⟨rfl, o2⟩
  have ho := o1.then o2
  have b2 := b1.only o2 (by simp)
  clear o1 o2 b1
  cases hp : prp s us 0 with
  | false =>
    have HE := Lib.hid (show ned s us wt = (0, 1) by unfold ned; rw [if_neg (by simp [hp])])
    clear hp
    go_wp2_with fail
    go_ret2
    exact ⟨by rw [HE.out]; rfl, ho⟩
  | true =>
    obtain ⟨hv, _, _, hlen, hall⟩ := prp_true hp
    have hk := (vs_true.1 hv).ok
    have Hp := Lib.hid hp
    have Hall := Lib.hid hall
    have Hv := Lib.hid hv
    clear hp hv hall
    by_cases h0 : wt < 0
    · have HE := Lib.hid (show ned s us wt = (0, 1) by unfold ned; rw [if_neg (by omega)])
      go_wp2_with fail
      go_ret2
      exact ⟨by rw [HE.out]; rfl, ho⟩
    · have h0' : 0 ≤ wt := by omega
      have hd0 : decide (wt < 0) = false := decide_eq_false h0
      have HE := Lib.hid (show ned s us wt = (match nd s us wt with | some m => (m, 0) | none => (0, 9)) by unfold ned; rw [if_pos ⟨Hp.out, h0'⟩]; cases nd s us wt <;> rfl)
      clear h0
      go_wp2_with fail
      clear hd0
      have hcap := cap_bd hk
      have hnum := hk.num
      have hmo := most_bd hk
      refine rgn (Cls w2) (by kernel_rfl) (by kernel_rfl) Cls.refl ?_
      refine qR _ rfl rfl rfl (fun w hC => hC.blk b2) Try.underlying26 rfl (info_sq _) ?_
      simp only [Act.put, List.setIfInBounds_toArray, List.set_cons_zero, List.set_cons_succ]
      refine qC (fun w hC => Calls.cls hC (refCap_ok w s hI Hv.out)) rfl (fun w => ?_) ?_
      · go_simp; try rfl
      simp only [Act.put, List.setIfInBounds_toArray, List.set_cons_zero, List.set_cons_succ]
      refine qR _ rfl rfl rfl (fun w hC => hC.blk b2) Try.underlying26 rfl (info_sq _) ?_
      simp only [Act.put, List.setIfInBounds_toArray, List.set_cons_zero, List.set_cons_succ]
      refine qC (fun w hC => Calls.cls hC (part_any w s hk)) rfl (fun w => ?_) ?_
      · go_simp; try rfl
      simp only [Act.put, List.setIfInBounds_toArray, List.set_cons_zero, List.set_cons_succ]
      repeat (first | (refine qU rfl ?_; simp only [Act.put, List.setIfInBounds_toArray, List.set_cons_zero, List.set_cons_succ]) | (refine qW ?_ rfl rfl (fun w hC K hK => ?_) ?_; rotate_left; (focus ((go_wp2_with fail) <;> exact hK _ hC)); simp only [Act.put, List.setIfInBounds_toArray, List.set_cons_zero, List.set_cons_succ]))
      refine qN ?_
      intro w' hw'
      have hw5 : Only [] w2 w' := hw'
      revert hw5
      clear hw'
      generalize w' = w5
      intro hw'
      have hw' : Cls w2 w5 := hw'
      rw [show cap s - 8 * (2 * s.num) = most s by unfold most; rw [cst8]]
      have ho5 := ho.then hw'.only
      have b5 := b2.only hw'.only (by simp)
      clear hw' b2 ho hcap hnum
      have hst : ∃ ov : Bool, decide (most s < wt) = ov ∧ ((ov = true ∧ Hid (nd s us wt = none)) ∨ (ov = false ∧ Hid (nd s (us.drop us.length) wt = some wt) ∧ wt ≤ most s)) := by
        by_cases hm : most s < wt
        · exact ⟨true, decide_eq_true hm, .inl ⟨rfl, Lib.hid (nd_none us.length (Nat.le_refl _) (by rw [List.drop_length]; unfold nd; rw [if_neg (by omega)]))⟩⟩
        · exact ⟨false, decide_eq_false hm, .inr ⟨rfl, Lib.hid (by rw [List.drop_length]; unfold nd; rw [if_pos (by omega)]), by omega⟩⟩
      obtain ⟨ov, hov, hst⟩ := hst
      have Hst := Lib.hid hst
      clear hst
      go_wp2_with fail
      go_loopw [9, 10, 11] (fun n o i wr => ∃ j : Nat, j ≤ us.length ∧ i = .int .i64 ((j : Int) - 1) ∧ ∃ m : Int, n = .int .i64 m ∧ ∃ ov : Bool, o = .bool ov ∧ ((ov = true ∧ Hid (nd s us wt = none)) ∨ (ov = false ∧ Hid (nd s (us.drop j) wt = some m) ∧ 0 ≤ m ∧ m ≤ most s)) ∧ Only [] w5 wr) (fun _ _ i _ => (intOf i + 1).toNat)
      case atStart =>
        refine ⟨us.length, Nat.le_refl _, by go_num, wt, rfl, _, rfl, ?_, Only.refl _ _⟩
        rcases Hst.out with h | ⟨h1, h2, h3⟩
        · exact .inl h
        · exact .inr ⟨h1, h2, h0', h3⟩
      case round =>
        obtain ⟨j, hj, rfl, m, rfl, ov1, rfl, hcase, ho6⟩ := hrel
        have b6 := b5.only ho6 (by simp)
        rcases hcase with ⟨rfl, HF⟩ | ⟨rfl, Hm, hm0, hm1⟩
        · by_cases hj0 : 0 ≤ (j : Int) - 1
          · go_wp2_with fail
            go_ret2
            exact ⟨by rw [HE.out, HF.out]; rfl, ho5.then ho6⟩
          · have hdj : decide (0 ≤ (j : Int) - 1) = false := decide_eq_false hj0
            go_wp2_with fail
            go_ret2
            exact ⟨by rw [HE.out, HF.out]; rfl, ho5.then ho6⟩
        rcases Nat.eq_zero_or_pos j with hj0 | hj0
        · subst hj0
          have HF := Lib.hid (show nd s us wt = some m by have := Hm.out; rwa [List.drop_zero] at this)
          go_wp2_with fail
          go_ret2
          exact ⟨by rw [HE.out, HF.out]; rfl, ho5.then ho6⟩
        · obtain ⟨k, rfl⟩ : ∃ k, j = k + 1 := ⟨j - 1, by omega⟩
          obtain ⟨x, hx⟩ : ∃ x, us[k]? = some x := ⟨_, List.getElem?_eq_getElem (by omega)⟩
          obtain ⟨b, off, rfl, _, _, c2, c3⟩ := (Hr.out.then (ho5.then ho6)).un rfl hx
          have hu := uok_true (Hall.out x (List.mem_of_getElem? hx))
          have hcb := cst_bd hk (b := x.c) (by omega)
          have hab := arl_bd hk (f := x.d) (by omega)
          have HD := Lib.hid (nd_drop (s := s) hx wt)
          have hki : ((k + 1 : Nat) : Int) - 1 = (k : Int) := by omega
          rw [hki]
          have hkl : (k : Int) < (us.length : Int) := by omega
          have f2 : ∀ w', Cls wr w' → w'.cell? ⟨b, off + k * 4 + 2, none⟩ = some (.int .i64 x.c) := fun w' h => h.cell c2
          have f3 : ∀ w', Cls wr w' → w'.cell? ⟨b, off + k * 4 + 3, none⟩ = some (.int .i64 x.d) := fun w' h => h.cell c3
          clear c2 c3 hx hki
          go_wp2_with fail
          refine rgn (Cls wr) (by kernel_rfl) (by kernel_rfl) Cls.refl ?_
          refine qR _ rfl rfl rfl (fun w hC => hC.blk b6) Try.underlying26 rfl (info_sq _) ?_
          simp only [Act.put, List.setIfInBounds_toArray, List.set_cons_zero, List.set_cons_succ]
          iterate 5 (first | (refine qU rfl ?_; simp only [Act.put, List.setIfInBounds_toArray, List.set_cons_zero, List.set_cons_succ]) | (refine qW ?_ rfl rfl (fun w hC K hK => ?_) ?_; rotate_left; (focus ((go_wp2_with fail) <;> exact hK _ hC)); simp only [Act.put, List.setIfInBounds_toArray, List.set_cons_zero, List.set_cons_succ]))
          refine qC (fun w hC => Calls.cls hC (refCost_ok w s hI Hv.out x.c ⟨hu.1, hu.2.1⟩)) rfl (fun w => ?_) ?_
          · go_simp; try rfl
          simp only [Act.put, List.setIfInBounds_toArray, List.set_cons_zero, List.set_cons_succ]
          iterate 1 (first | (refine qU rfl ?_; simp only [Act.put, List.setIfInBounds_toArray, List.set_cons_zero, List.set_cons_succ]) | (refine qW ?_ rfl rfl (fun w hC K hK => ?_) ?_; rotate_left; (focus ((go_wp2_with fail) <;> exact hK _ hC)); simp only [Act.put, List.setIfInBounds_toArray, List.set_cons_zero, List.set_cons_succ]))
          refine qR _ rfl rfl rfl (fun w hC => hC.blk b6) Try.underlying26 rfl (info_sq _) ?_
          simp only [Act.put, List.setIfInBounds_toArray, List.set_cons_zero, List.set_cons_succ]
          iterate 5 (first | (refine qU rfl ?_; simp only [Act.put, List.setIfInBounds_toArray, List.set_cons_zero, List.set_cons_succ]) | (refine qW ?_ rfl rfl (fun w hC K hK => ?_) ?_; rotate_left; (focus ((go_wp2_with fail) <;> exact hK _ hC)); simp only [Act.put, List.setIfInBounds_toArray, List.set_cons_zero, List.set_cons_succ]))
          refine qC (fun w hC => Calls.cls hC (refArr_ok w s hI Hv.out x.d (by omega))) rfl (fun w => ?_) ?_
          · go_simp; try rfl
          simp only [Act.put, List.setIfInBounds_toArray, List.set_cons_zero, List.set_cons_succ]
          iterate 1 (first | (refine qU rfl ?_; simp only [Act.put, List.setIfInBounds_toArray, List.set_cons_zero, List.set_cons_succ]) | (refine qW ?_ rfl rfl (fun w hC K hK => ?_) ?_; rotate_left; (focus ((go_wp2_with fail) <;> exact hK _ hC)); simp only [Act.put, List.setIfInBounds_toArray, List.set_cons_zero, List.set_cons_succ]))
          refine qMax 0 (m - arl s x.d) _ _ rfl rfl rfl rfl ?_
          simp only [Act.put, List.setIfInBounds_toArray, List.set_cons_zero, List.set_cons_succ]
          have hmx : 0 ≤ max 0 (m - arl s x.d) ∧ max 0 (m - arl s x.d) ≤ 17592186044416 := by omega
          generalize hMX : max 0 (m - arl s x.d) = MX at hmx ⊢
          have HMX := Lib.hid hMX
          clear hMX
          repeat (first | (refine qU rfl ?_; simp only [Act.put, List.setIfInBounds_toArray, List.set_cons_zero, List.set_cons_succ]) | (refine qW ?_ rfl rfl (fun w hC K hK => ?_) ?_; rotate_left; (focus ((go_wp2_with fail) <;> exact hK _ hC)); simp only [Act.put, List.setIfInBounds_toArray, List.set_cons_zero, List.set_cons_succ]))
          refine qN ?_
          intro w' hw'
          have hs : cst s x.c + MX = stp s x m := by unfold stp; rw [HMX.out]
          have hsb : 0 ≤ stp s x m ∧ stp s x m ≤ 35184372088832 := by rw [← hs]; omega
          rw [hs]
          have ho7 := ho6.then hw'.only
          clear hs f2 f3 hcb hab hmx
          have hst : ∃ ov : Bool, decide (most s < stp s x m) = ov ∧ ((ov = true ∧ Hid (nd s us wt = none)) ∨ (ov = false ∧ Hid (nd s (us.drop k) wt = some (stp s x m)) ∧ 0 ≤ stp s x m ∧ stp s x m ≤ most s)) := by
            by_cases hgt : most s < stp s x m
            · exact ⟨true, decide_eq_true hgt, .inl ⟨rfl, Lib.hid (nd_none (s := s) (us := us) (wt := wt) k (by omega) (by rw [HD.out, Hm.out]; simp only [Option.bind_some]; rw [if_neg (by omega)]))⟩⟩
            · exact ⟨false, decide_eq_false hgt, .inr ⟨rfl, Lib.hid (by rw [HD.out, Hm.out]; simp only [Option.bind_some]; rw [if_pos (by omega)]), hsb.1, by omega⟩⟩
          obtain ⟨ov2, hov2, hst⟩ := hst
          have Hst2 := Lib.hid hst
          clear hst
          go_wp2_with fail
          go_roundw
          case rel => exact ⟨k, by omega, by go_num, _, rfl, _, rfl, Hst2.out, ho7⟩
          case measure => simp [intOf]
end Go.Proofs.Ytmghfhjiodeaeaa
