/- Contract of the reference's Pad. -/
import Derived.Test.YtmghfhjiodeaeaaU8
namespace Go.Proofs.Ytmghfhjiodeaeaa
open Go.RowKit

set_option maxHeartbeats 4000000 in
set_option maxRecDepth 100000 in
theorem refPad_any (w : World) (s : Sq) (hI : SqI s) (A : Option Addr) (c : Nat) (us : List Un) (st : Int) (hr : Reads w A 4 us.length (uV us)) :
    Calls Try.prog 22 #[.agg (sqA s), .slice A us.length c, .int .i64 st] w (PadC s us st w) := by
  obtain ⟨i0, hi0, hz0, hz1, hz2⟩ := info_parts info_i64
  have Hr := Lib.hid hr
  clear hr
  go_enter Try.func22, Try.ntmps22
  have tok : True := trivial
  have tok2 : True := trivial
  go_wp2_with (first | (clear tok; refine bxS (s := s) rfl rfl rfl ?_; rintro g1 w1 b1 o1 l1) | (clear tok2; refine ldS b1 rfl rfl rfl ?_))
  refine (refProper_any _ s hI _ c us st (Hr.out.then o1)).mono ?_
  rintro e w2 ⟨rfl, o2⟩
  have ho := o1.then o2
  have b2 := b1.only o2 (by simp)
  clear o1 o2 b1
  cases hp : prp s us st with
  | false =>
    have HE := Lib.hid (padR_bad hp)
    clear hp
    go_wp2_with fail
    go_ret2
    exact PadC.of HE.out rfl Reads.none_ ho
  | true =>
    obtain ⟨hv, hs0, hs1, hlen, hall⟩ := prp_true hp
    have hk := (vs_true.1 hv).ok
    have Hp := Lib.hid hp
    have Hall := Lib.hid hall
    have Hv := Lib.hid hv
    clear hp hv hall
    have hcap := cap_bd hk
    have h8 := c8_bd hk
    have hnum := hk.num
    go_wp2_with fail
    go_loopw [8, 9, 10] (fun o f i wr => ∃ k : Nat, k ≤ us.length ∧ i = .int .i64 (k : Int) ∧ ∃ fv : Int, f = .int .i64 fv ∧ -17592186044416 ≤ fv ∧ fv ≤ 35184372088832 ∧ (k < us.length → fv ≤ cap s) ∧ ∃ ns, Hid (PI s us st k fv ns) ∧ ∃ A c, o = .slice A k c ∧ Hid (wr.ownsRow 0 2 1 (.slice A k c) k (iV ns)) ∧ Only [] w2 wr ∧ Fresh w2 [] (rowFp (.slice A k c))) (fun _ _ i _ => us.length - (intOf i).toNat)
    case atStart => exact ⟨0, Nat.zero_le _, rfl, st, rfl, by omega, by omega, fun _ => hs1, [], PI.start _ _ _, none, 0, rfl, World.ownsRow_nil _ _ _ _, Only.refl _ _, by simp [Fresh, rowFp, Value.ownBlock]⟩
    case round =>
      obtain ⟨k, hkl, rfl, f, rfl, hf0, hf1, hf2, ns, HP, Ao, co, rfl, Hown, ho6, hfr⟩ := hrel
      by_cases hlt : k < us.length
      · have hfc := hf2 hlt
        clear hf2
        obtain ⟨x, hx⟩ : ∃ x, us[k]? = some x := ⟨_, List.getElem?_eq_getElem hlt⟩
        obtain ⟨b, off, rfl, _, _, c2, c3⟩ := (Hr.out.then (ho.then ho6)).un rfl hx
        have hu := uok_true (Hall.out x (List.mem_of_getElem? hx))
        have hcb := cst_bd hk (b := x.c) (by omega)
        have hab := arl_bd hk (f := x.d) (by omega)
        have Hx := Lib.hid hx
        have b6 := b2.only ho6 (by simp)
        have hkl' : (k : Int) < (us.length : Int) := by omega
        have f2 : ∀ w', Cls wr w' → w'.cell? ⟨b, off + k * 4 + 2, none⟩ = some (.int .i64 x.c) := fun w' h => h.cell c2
        have f3 : ∀ w', Cls wr w' → w'.cell? ⟨b, off + k * 4 + 3, none⟩ = some (.int .i64 x.d) := fun w' h => h.cell c3
        clear hx c2 c3
        go_wp2_with fail
        refine rgn (Cls wr) (by kernel_rfl) (by kernel_rfl) Cls.refl ?_
        iterate 1 (first | (refine qU rfl ?_; simp only [Act.put, List.setIfInBounds_toArray, List.set_cons_zero, List.set_cons_succ]) | (refine qW ?_ rfl rfl (fun w hC K hK => ?_) ?_; rotate_left; (focus ((go_wp2_with fail) <;> exact hK _ hC)); simp only [Act.put, List.setIfInBounds_toArray, List.set_cons_zero, List.set_cons_succ]))
        refine qR _ rfl rfl rfl (fun w hC => hC.blk b6) Try.underlying26 rfl (info_sq _) ?_
        simp only [Act.put, List.setIfInBounds_toArray, List.set_cons_zero, List.set_cons_succ]
        iterate 5 (first | (refine qU rfl ?_; simp only [Act.put, List.setIfInBounds_toArray, List.set_cons_zero, List.set_cons_succ]) | (refine qW ?_ rfl rfl (fun w hC K hK => ?_) ?_; rotate_left; (focus ((go_wp2_with fail) <;> exact hK _ hC)); simp only [Act.put, List.setIfInBounds_toArray, List.set_cons_zero, List.set_cons_succ]))
        refine qC (fun w hC => Calls.cls hC (refCost_ok w s hI Hv.out x.c ⟨hu.1, hu.2.1⟩)) rfl (fun w => ?_) ?_
        · go_simp; try rfl
        simp only [Act.put, List.setIfInBounds_toArray, List.set_cons_zero, List.set_cons_succ]
        repeat (first | (refine qU rfl ?_; simp only [Act.put, List.setIfInBounds_toArray, List.set_cons_zero, List.set_cons_succ]) | (refine qW ?_ rfl rfl (fun w hC K hK => ?_) ?_; rotate_left; (focus ((go_wp2_with fail) <;> exact hK _ hC)); simp only [Act.put, List.setIfInBounds_toArray, List.set_cons_zero, List.set_cons_succ]))
        refine qN ?_
        intro w' hw'
        have hw7 : Only [] wr w' := hw'
        revert hw7
        clear hw'
        generalize w' = w7
        intro h7
        have b7 := b6.only h7 (by simp)
        have ho7 := ho6.then h7
        have Hown7 := Lib.hid (own_only Hown.out h7 (fun _ _ => List.not_mem_nil))
        have f2' : ∀ w', Cls w7 w' → w'.cell? ⟨b, off + k * 4 + 2, none⟩ = some (.int .i64 x.c) := fun w' h => f2 w' (Only.then h7 h)
        have f3' : ∀ w', Cls w7 w' → w'.cell? ⟨b, off + k * 4 + 3, none⟩ = some (.int .i64 x.d) := fun w' h => f3 w' (Only.then h7 h)
        clear h7 b6 Hown f2 f3
        by_cases hfl : f < cst s x.c
        · have HE := Lib.hid (padR_none Hp.out (HP.out.fail Hx.out hfl))
          go_wp2_with fail
          go_ret2
          exact PadC.of HE.out rfl Reads.none_ (ho.then ho7)
        · have hfd : decide (f < cst s x.c) = false := decide_eq_false hfl
          have HPs := Lib.hid (fun l hl => HP.out.step Hx.out hfl l hl)
          have hf' : cst s x.c ≤ f := by omega
          clear hfl
          go_wp2_with fail
          clear hfd
          refine rgn (Cls w7) (by kernel_rfl) (by kernel_rfl) Cls.refl ?_
          iterate 1 (first | (refine qU rfl ?_; simp only [Act.put, List.setIfInBounds_toArray, List.set_cons_zero, List.set_cons_succ]) | (refine qW ?_ rfl rfl (fun w hC K hK => ?_) ?_; rotate_left; (focus ((go_wp2_with fail) <;> exact hK _ hC)); simp only [Act.put, List.setIfInBounds_toArray, List.set_cons_zero, List.set_cons_succ]))
          refine qR _ rfl rfl rfl (fun w hC => hC.blk b7) Try.underlying26 rfl (info_sq _) ?_
          simp only [Act.put, List.setIfInBounds_toArray, List.set_cons_zero, List.set_cons_succ]
          iterate 5 (first | (refine qU rfl ?_; simp only [Act.put, List.setIfInBounds_toArray, List.set_cons_zero, List.set_cons_succ]) | (refine qW ?_ rfl rfl (fun w hC K hK => ?_) ?_; rotate_left; (focus ((go_wp2_with fail) <;> exact hK _ hC)); simp only [Act.put, List.setIfInBounds_toArray, List.set_cons_zero, List.set_cons_succ]))
          refine qC (fun w hC => Calls.cls hC (refCost_ok w s hI Hv.out x.c ⟨hu.1, hu.2.1⟩)) rfl (fun w => ?_) ?_
          · go_simp; try rfl
          simp only [Act.put, List.setIfInBounds_toArray, List.set_cons_zero, List.set_cons_succ]
          iterate 1 (first | (refine qU rfl ?_; simp only [Act.put, List.setIfInBounds_toArray, List.set_cons_zero, List.set_cons_succ]) | (refine qW ?_ rfl rfl (fun w hC K hK => ?_) ?_; rotate_left; (focus ((go_wp2_with fail) <;> exact hK _ hC)); simp only [Act.put, List.setIfInBounds_toArray, List.set_cons_zero, List.set_cons_succ]))
          refine qR _ rfl rfl rfl (fun w hC => hC.blk b7) Try.underlying26 rfl (info_sq _) ?_
          simp only [Act.put, List.setIfInBounds_toArray, List.set_cons_zero, List.set_cons_succ]
          iterate 5 (first | (refine qU rfl ?_; simp only [Act.put, List.setIfInBounds_toArray, List.set_cons_zero, List.set_cons_succ]) | (refine qW ?_ rfl rfl (fun w hC K hK => ?_) ?_; rotate_left; (focus ((go_wp2_with fail) <;> exact hK _ hC)); simp only [Act.put, List.setIfInBounds_toArray, List.set_cons_zero, List.set_cons_succ]))
          refine qC (fun w hC => Calls.cls hC (refArr_ok w s hI Hv.out x.d (by omega))) rfl (fun w => ?_) ?_
          · go_simp; try rfl
          simp only [Act.put, List.setIfInBounds_toArray, List.set_cons_zero, List.set_cons_succ]
          repeat (first | (refine qU rfl ?_; simp only [Act.put, List.setIfInBounds_toArray, List.set_cons_zero, List.set_cons_succ]) | (refine qW ?_ rfl rfl (fun w hC K hK => ?_) ?_; rotate_left; (focus ((go_wp2_with fail) <;> exact hK _ hC)); simp only [Act.put, List.setIfInBounds_toArray, List.set_cons_zero, List.set_cons_succ]))
          refine qN ?_
          intro w' hw'
          have hw8 : Only [] w7 w' := hw'
          revert hw8
          clear hw'
          generalize w' = w8
          intro h8'
          have b8 := b7.only h8' (by simp)
          have ho8 := ho7.then h8'
          have Hown8 := Lib.hid (own_only Hown7.out h8' (fun _ _ => List.not_mem_nil))
          clear h8' b7 Hown7 f2' f3' ho7
          rw [show f - cst s x.c + arl s x.d = aft s x f from rfl]
          have haf : 0 ≤ aft s x f ∧ aft s x f ≤ cap s + 3298534883328 := by unfold aft; omega
          have tok3 : True := trivial
          go_wp2_with (clear tok3; refine ldS b8 rfl rfl rfl ?_)
          refine (refCap_ok _ s hI Hv.out).mono ?_
          rintro e w9 ⟨rfl, o9⟩
          have b9 := b8.only o9 (by simp)
          have ho9 := ho8.then o9
          have Hown9 := Lib.hid (own_only Hown8.out o9 (fun _ _ => List.not_mem_nil))
          clear o9 b8 Hown8 ho8
          have Htail : ∃ q nx : Int, ∃ gd lst : Bool, decide (0 < aft s x f - cap s) = gd ∧ decide ((k : Int) + 1 < (us.length : Int)) = lst ∧ aft s x f - cst s 8 * q = nx ∧ -17592186044416 ≤ nx ∧ nx ≤ 35184372088832 ∧ (k + 1 < us.length → nx ≤ cap s) ∧ 0 ≤ q ∧ q ≤ 35184372088832 ∧ 0 ≤ cst s 8 * q ∧ cst s 8 * q ≤ 35184372088832 ∧ Hid (PI s us st (k + 1) nx (ns ++ [q])) ∧ ((gd = true ∧ lst = true ∧ 0 < aft s x f - cap s ∧ (k : Int) + 1 < (us.length : Int) ∧ (aft s x f - cap s + cst s 8 - 1).tdiv (cst s 8) = q) ∨ (gd = true ∧ lst = false ∧ q = 0 ∧ 0 < aft s x f - cap s ∧ (us.length : Int) ≤ (k : Int) + 1) ∨ (gd = false ∧ q = 0 ∧ aft s x f - cap s ≤ 0)) := by
            by_cases hov : 0 < aft s x f - cap s
            · by_cases hla : k + 1 < us.length
              · have hpn := pn_bd hk hov
                have hnb := nxt_bd hk (x := x) (f := f)
                have hnx : aft s x f - cst s 8 * pn s (aft s x f) false = nxt s x f false := rfl
                exact ⟨pn s (aft s x f) false, nxt s x f false, true, true, decide_eq_true hov, decide_eq_true (by omega), hnx, by omega, by omega, fun _ => hnb, by omega, by omega, by omega, by omega, Lib.hid (HPs.out false (decide_eq_false (by omega))), .inl ⟨rfl, rfl, hov, by omega, (pn_pos hov).symm⟩⟩
              · have h1 := HPs.out true (decide_eq_true (by omega))
                rw [nxt_last, pn_zero (.inr rfl)] at h1
                exact ⟨0, aft s x f, true, false, decide_eq_true hov, decide_eq_false (by omega), by omega, by omega, by omega, fun h => absurd h hla, by omega, by omega, by omega, by omega, h1, .inr (.inl ⟨rfl, rfl, rfl, hov, by omega⟩)⟩
            · have h1 := HPs.out _ rfl
              rw [nxt_low (by omega), pn_zero (.inl (by omega))] at h1
              exact ⟨0, aft s x f, false, _, decide_eq_false hov, rfl, by omega, by omega, by omega, fun _ => by omega, by omega, by omega, by omega, by omega, h1, .inr (.inr ⟨rfl, rfl, by omega⟩)⟩
          obtain ⟨q, nx, gd, lst, hgd, hlst, hnx, hn0, hn1, hn2, hq0, hq1, hm0, hm1, HPn, hcase⟩ := Htail
          have Hnx := Lib.hid hnx
          clear HPs HP hnx
          rcases hcase with ⟨rfl, rfl, hov, hla, hq⟩ | ⟨rfl, rfl, rfl, hov, hla⟩ | ⟨rfl, rfl, hov⟩
          · have hcst := cst8 s
            go_wp2_with fail
            refine rgn (Cls w9) (by kernel_rfl) (by kernel_rfl) Cls.refl ?_
            iterate 1 (first | (refine qU rfl ?_; simp only [Act.put, List.setIfInBounds_toArray, List.set_cons_zero, List.set_cons_succ]) | (refine qW ?_ rfl rfl (fun w hC K hK => ?_) ?_; rotate_left; (focus ((go_wp2_with fail) <;> exact hK _ hC)); simp only [Act.put, List.setIfInBounds_toArray, List.set_cons_zero, List.set_cons_succ]))
            refine qR _ rfl rfl rfl (fun w hC => hC.blk b9) Try.underlying26 rfl (info_sq _) ?_
            simp only [Act.put, List.setIfInBounds_toArray, List.set_cons_zero, List.set_cons_succ]
            refine qC (fun w hC => Calls.cls hC (part_any w s hk)) rfl (fun w => ?_) ?_
            · go_simp; try rfl
            simp only [Act.put, List.setIfInBounds_toArray, List.set_cons_zero, List.set_cons_succ]
            iterate 3 (first | (refine qU rfl ?_; simp only [Act.put, List.setIfInBounds_toArray, List.set_cons_zero, List.set_cons_succ]) | (refine qW ?_ rfl rfl (fun w hC K hK => ?_) ?_; rotate_left; (focus ((go_wp2_with fail) <;> exact hK _ hC)); simp only [Act.put, List.setIfInBounds_toArray, List.set_cons_zero, List.set_cons_succ]))
            refine qR _ rfl rfl rfl (fun w hC => hC.blk b9) Try.underlying26 rfl (info_sq _) ?_
            simp only [Act.put, List.setIfInBounds_toArray, List.set_cons_zero, List.set_cons_succ]
            refine qC (fun w hC => Calls.cls hC (part_any w s hk)) rfl (fun w => ?_) ?_
            · go_simp; try rfl
            simp only [Act.put, List.setIfInBounds_toArray, List.set_cons_zero, List.set_cons_succ]
            repeat (first | (refine qU rfl ?_; simp only [Act.put, List.setIfInBounds_toArray, List.set_cons_zero, List.set_cons_succ]) | (refine qW ?_ rfl rfl (fun w hC K hK => ?_) ?_; rotate_left; (focus ((go_wp2_with fail) <;> exact hK _ hC)); simp only [Act.put, List.setIfInBounds_toArray, List.set_cons_zero, List.set_cons_succ]))
            refine qN ?_
            intro w' hw'
            have hw10 : Only [] w9 w' := hw'
            revert hw10
            clear hw'
            generalize w' = w10
            intro h10
            have b10 := b9.only h10 (by simp)
            have ho10 := ho9.then h10
            have Hown10 := Lib.hid (own_only Hown9.out h10 (fun _ _ => List.not_mem_nil))
            clear h10 b9 ho9 Hown9 hq hov hgd hlst
            have tok5 : True := trivial
            go_wp2_with (clear tok5; refine ldS b10 rfl rfl rfl ?_)
            refine (part_any _ s hk).mono ?_
            rintro e w11 ⟨rfl, o11⟩
            have ho11 := ho10.then o11
            have hown11 := own_only Hown10.out o11 (fun _ _ => List.not_mem_nil)
            have hnx := Hnx.out
            go_wp2_with (at_builtin; refine wpList_app _ rfl _ _ 41 rfl 2 i0 (.int .i64 0) 1 8 Try.underlying41 hi0 hz0 hz1 hz2 rfl (by decide) _ _ _ _ rfl (hown11.alloc _) _ 1 1 [.int .i64 q] rfl (Reads.one _ _ _) ?c2 ?c3 ?c4 ?_)
            case c2 => intro u hu; simp at hu; subst hu; rfl
            case c3 => unfold maxLen; omega
            case c4 => omega
            intro A' c' w12 own12 o12 f12
            go_wp2_with fail
            go_roundw
            case rel => exact ⟨k + 1, by omega, by go_num, _, rfl, hn0, hn1, hn2, _, HPn, _, _, rfl, (by rw [iV_append]; exact own12), (ho11.alloc _).trans o12 hfr, Fresh.trans hfr (Nat.le_trans ho11.size (by simp)) f12⟩
            case measure => simp [intOf]; omega
          · have b10 := b9
            have ho10 := ho9
            have Hown10 := Hown9
            have hcst := cst8 s
            clear b9 ho9 Hown9
            have tok5 : True := trivial
            go_wp2_with (clear tok5; refine ldS b10 rfl rfl rfl ?_)
            refine (part_any _ s hk).mono ?_
            rintro e w11 ⟨rfl, o11⟩
            have ho11 := ho10.then o11
            have hown11 := own_only Hown10.out o11 (fun _ _ => List.not_mem_nil)
            have hnx := Hnx.out
            rw [Int.mul_zero] at hnx
            have hmz : cst s 8 * 0 = 0 := Int.mul_zero _
            go_wp2_with (at_builtin; refine wpList_app _ rfl _ _ 41 rfl 2 i0 (.int .i64 0) 1 8 Try.underlying41 hi0 hz0 hz1 hz2 rfl (by decide) _ _ _ _ rfl (hown11.alloc _) _ 1 1 [.int .i64 0] rfl (Reads.one _ _ _) ?c2 ?c3 ?c4 ?_)
            case c2 => intro u hu; simp at hu; subst hu; rfl
            case c3 => unfold maxLen; omega
            case c4 => omega
            intro A' c' w12 own12 o12 f12
            go_wp2_with fail
            go_roundw
            case rel => exact ⟨k + 1, by omega, by go_num, _, rfl, hn0, hn1, hn2, _, HPn, _, _, rfl, (by rw [iV_append]; exact own12), (ho11.alloc _).trans o12 hfr, Fresh.trans hfr (Nat.le_trans ho11.size (by simp)) f12⟩
            case measure => simp [intOf]; omega
          · have b10 := b9
            have ho10 := ho9
            have Hown10 := Hown9
            have hcst := cst8 s
            clear b9 ho9 Hown9
            have tok5 : True := trivial
            go_wp2_with (clear tok5; refine ldS b10 rfl rfl rfl ?_)
            refine (part_any _ s hk).mono ?_
            rintro e w11 ⟨rfl, o11⟩
            have ho11 := ho10.then o11
            have hown11 := own_only Hown10.out o11 (fun _ _ => List.not_mem_nil)
            have hnx := Hnx.out
            rw [Int.mul_zero] at hnx
            have hmz : cst s 8 * 0 = 0 := Int.mul_zero _
            go_wp2_with (at_builtin; refine wpList_app _ rfl _ _ 41 rfl 2 i0 (.int .i64 0) 1 8 Try.underlying41 hi0 hz0 hz1 hz2 rfl (by decide) _ _ _ _ rfl (hown11.alloc _) _ 1 1 [.int .i64 0] rfl (Reads.one _ _ _) ?c2 ?c3 ?c4 ?_)
            case c2 => intro u hu; simp at hu; subst hu; rfl
            case c3 => unfold maxLen; omega
            case c4 => omega
            intro A' c' w12 own12 o12 f12
            go_wp2_with fail
            go_roundw
            case rel => exact ⟨k + 1, by omega, by go_num, _, rfl, hn0, hn1, hn2, _, HPn, _, _, rfl, (by rw [iV_append]; exact own12), (ho11.alloc _).trans o12 hfr, Fresh.trans hfr (Nat.le_trans ho11.size (by simp)) f12⟩
            case measure => simp [intOf]; omega
      · have hke : k = us.length := by omega
        subst hke
        have HE := Lib.hid (padR_some Hp.out HP.out.done)
        have HL := Lib.hid HP.out.len
        go_wp2_with fail
        go_ret2
        exact PadC.of HE.out HL.out.symm (Reads.of_own Hown.out) (ho.then ho6)
end Go.Proofs.Ytmghfhjiodeaeaa
