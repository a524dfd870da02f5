/- Contract of the reference's ran. -/
import Derived.Test.YtmghfhjiodeaeaaU10
import Derived.Test.YtmghfhjiodeaeaaRegA
namespace Go.Proofs.Ytmghfhjiodeaeaa
open Go.RowKit

theorem zeroRL : (Try.prog.info? 55).map (·.zero) = some (some (.agg (lv (0, 0)).toArray)) := by kernel_rfl
section
variable {ops : Array Oper} {rest : List Oper} {o : Oper} {a : Act} {w : World} {Q : Exit → Act → World → Prop} {X Y : Operand} {g : Nat} {p q : Int × Int}
theorem srL (h : Blk w g 55 (lv p).toArray) (hgd : o.guard = none) (ho : o.op = .store 55 X Y) (hx : a.eval X = .pointer (some ⟨g, 0, none⟩)) (hy : a.eval Y = .agg (lv q).toArray)
    (k : ∀ w', Blk w' g 55 (lv q).toArray → Only [g] w w' → w'.heap.size = w.heap.size → wpList Try.prog ops Q rest (a.put o.dst undef) w') : wpList Try.prog ops Q (o :: rest) a w :=
  wsr (lv q).toArray h hgd ho hx hy (by kernel_rfl) rfl (by simp [lv, Value.oneCell']) k
theorem ldL (h : Blk w g 55 (lv p).toArray) (hgd : o.guard = none) (ho : o.op = .load 55 X) (hx : a.eval X = .pointer (some ⟨g, 0, none⟩))
    (k : wpList Try.prog ops Q rest (a.put o.dst (.agg (lv p).toArray)) w) : wpList Try.prog ops Q (o :: rest) a w :=
  wpList_load_row hgd 55 X ho g hx 55 _ (0, 0) _ h Try.underlying55 rfl (by kernel_rfl) k
end
set_option maxHeartbeats 2000000 in
set_option maxRecDepth 100000 in
theorem ran_any (w : World) (s : Sq) (hI : SqI s) (hv : vs s = true) (A : Option Addr) (c : Nat) (us : List Un) (st : Int) (hr : Reads w A 4 us.length (uV us)) (hs0 : 0 ≤ st) (hs1 : st ≤ cap s) (hlen : us.length ≤ 256) (hall : ∀ x ∈ us, uok x = true) :
    Calls Try.prog 38 #[.agg (sqA s), .slice A us.length c, .int .i64 st] w (RunC s us st w) := by
  obtain ⟨i0, hi0, hz0, hz1, hz2⟩ := info_parts info_rlv
  have hk := (vs_true.1 hv).ok
  have Hr := Lib.hid hr
  have Hall := Lib.hid hall
  have HV := Lib.hid hv
  clear hr hall hv
  have hcap := cap_bd hk
  go_enter Try.func38, Try.ntmps38
  have tok : True := trivial
  go_wp2_with (clear tok; refine bxS (s := s) rfl rfl rfl ?_; rintro g1 w1 b1 o1 l1)
  go_loopw [8, 9, 10] (fun o f i wr => ∃ k : Nat, k ≤ us.length ∧ i = .int .i64 (k : Int) ∧ ∃ fv : Int, f = .int .i64 fv ∧ 0 ≤ fv ∧ fv ≤ 35184372088832 ∧ (k < us.length → fv ≤ cap s) ∧ ∃ ls, Hid (RI s us st k fv ls) ∧ ∃ A c, o = .slice A k c ∧ Hid (wr.ownsRow 0 55 2 (.slice A k c) k (lV ls)) ∧ Only [] w1 wr ∧ Fresh w1 [] (rowFp (.slice A k c))) (fun _ _ i _ => us.length - (intOf i).toNat)
  case atStart => exact ⟨0, Nat.zero_le _, rfl, st, rfl, by omega, by omega, fun _ => hs1, [], RI.start _ _ _, none, 0, rfl, World.ownsRow_nil _ _ _ _, Only.refl _ _, by simp [Fresh, rowFp, Value.ownBlock]⟩
  case round =>
    obtain ⟨k, hkl, rfl, f, rfl, hf0, hf1, hf2, ls, HP, Ao, co, rfl, Hown, ho6, hfr⟩ := hrel
    by_cases hlt : k < us.length
    · have hfc := hf2 hlt
      clear hf2
      obtain ⟨x, hx⟩ : ∃ x, us[k]? = some x := ⟨_, List.getElem?_eq_getElem hlt⟩
      obtain ⟨b, off, rfl, _, _, c2, c3⟩ := (Hr.out.then (o1.then ho6)).un rfl hx
      have hu := uok_true (Hall.out x (List.mem_of_getElem? hx))
      have hcb := cst_bd hk (b := x.c) (by omega)
      have hab := arl_bd hk (f := x.d) (by omega)
      have Hx := Lib.hid hx
      have b6 := b1.only ho6 (by simp)
      have hkl' : (k : Int) < (us.length : Int) := by omega
      have f2 : ∀ w', Cls wr w' → w'.cell? ⟨b, off + k * 4 + 2, none⟩ = some (.int .i64 x.c) := fun w' h => h.cell c2
      have f3 : ∀ w', Cls wr w' → w'.cell? ⟨b, off + k * 4 + 3, none⟩ = some (.int .i64 x.d) := fun w' h => h.cell c3
      clear hx c2 c3
      go_wp2_with fail
      have haf : f - cst s x.c + arl s x.d = aft s x f := rfl
      refine rgnA1 55 _ _ 20 19 11 (by kernel_rfl) (by kernel_rfl) (by kernel_rfl) (by kernel_rfl) (by kernel_rfl) zeroRL rfl ?_
      simp only [List.take_succ_cons, List.take_zero, List.drop_succ_cons, List.drop_zero]
      iterate 2 (first | (refine oU rfl rfl ?_; simp only [Act.put, List.setIfInBounds_toArray, List.set_cons_zero, List.set_cons_succ]) | (refine oW ?_ rfl rfl rfl (fun w hC K hK => ?_) ?_; rotate_left; (focus ((go_wp2_with fail) <;> exact hK _ (Only.refl _ _))); simp only [Act.put, List.setIfInBounds_toArray, List.set_cons_zero, List.set_cons_succ]))
      refine oR _ b6 rfl rfl rfl rfl Try.underlying26 rfl (info_sq _) ?_
      simp only [Act.put, List.setIfInBounds_toArray, List.set_cons_zero, List.set_cons_succ]
      iterate 5 (first | (refine oU rfl rfl ?_; simp only [Act.put, List.setIfInBounds_toArray, List.set_cons_zero, List.set_cons_succ]) | (refine oW ?_ rfl rfl rfl (fun w hC K hK => ?_) ?_; rotate_left; (focus ((go_wp2_with fail) <;> exact hK _ (Only.refl _ _))); simp only [Act.put, List.setIfInBounds_toArray, List.set_cons_zero, List.set_cons_succ]))
      refine oC (fun w hC => (refCost_ok _ s hI HV.out x.c ⟨hu.1, hu.2.1⟩)) rfl rfl (fun w => ?_) ?_
      · go_simp; try rfl
      simp only [Act.put, List.setIfInBounds_toArray, List.set_cons_zero, List.set_cons_succ]
      iterate 1 (first | (refine oU rfl rfl ?_; simp only [Act.put, List.setIfInBounds_toArray, List.set_cons_zero, List.set_cons_succ]) | (refine oW ?_ rfl rfl rfl (fun w hC K hK => ?_) ?_; rotate_left; (focus ((go_wp2_with fail) <;> exact hK _ (Only.refl _ _))); simp only [Act.put, List.setIfInBounds_toArray, List.set_cons_zero, List.set_cons_succ]))
      refine oR _ b6 rfl rfl rfl rfl Try.underlying26 rfl (info_sq _) ?_
      simp only [Act.put, List.setIfInBounds_toArray, List.set_cons_zero, List.set_cons_succ]
      iterate 5 (first | (refine oU rfl rfl ?_; simp only [Act.put, List.setIfInBounds_toArray, List.set_cons_zero, List.set_cons_succ]) | (refine oW ?_ rfl rfl rfl (fun w hC K hK => ?_) ?_; rotate_left; (focus ((go_wp2_with fail) <;> exact hK _ (Only.refl _ _))); simp only [Act.put, List.setIfInBounds_toArray, List.set_cons_zero, List.set_cons_succ]))
      refine oC (fun w hC => (refArr_ok _ s hI HV.out x.d (by omega))) rfl rfl (fun w => ?_) ?_
      · go_simp; try rfl
      simp only [Act.put, List.setIfInBounds_toArray, List.set_cons_zero, List.set_cons_succ]
      iterate 2 (first | (refine oU rfl rfl ?_; simp only [Act.put, List.setIfInBounds_toArray, List.set_cons_zero, List.set_cons_succ]) | (refine oW ?_ rfl rfl rfl (fun w hC K hK => ?_) ?_; rotate_left; (focus ((go_wp2_with fail) <;> exact hK _ (Only.refl _ _))); simp only [Act.put, List.setIfInBounds_toArray, List.set_cons_zero, List.set_cons_succ]))
      refine oA rfl ?_
      refine oN ?_
      intro gl w' hw' hbgl hlgl
      simp only [List.setIfInBounds_toArray, List.set_cons_zero, List.set_cons_succ]
      have tok2 : True := trivial
      go_wp2_with (clear tok2; refine srL (q := (f, aft s x f)) hbgl rfl rfl rfl rfl ?_; rintro w8 bl8 o8 l8)
      have h68 : Only [] wr w8 := Only.own hw' o8 hlgl
      have ho8 := ho6.then h68
      have b8 := b6.only h68 (by simp)
      have Hown8 := Lib.hid (own_only Hown.out h68 (fun _ _ => List.not_mem_nil))
      have f2' : ∀ w', Cls w8 w' → w'.cell? ⟨b, off + k * 4 + 2, none⟩ = some (.int .i64 x.c) := fun w' h => f2 w' (Only.then h68 h)
      have cl : w8.cell? ⟨gl, 1, none⟩ = some (.int .i64 (aft s x f)) := bl8.cell 1
      have fl : ∀ w', Cls w8 w' → w'.cell? ⟨gl, 1, none⟩ = some (.int .i64 (aft s x f)) := fun w' h => h.cell cl
      clear o8 hw' hlgl hbgl f2 f3 h68 b6 Hown ho6 cl l8
      by_cases hfl : f < cst s x.c
      · have HE := Lib.hid (HP.out.fail Hx.out _ rfl (bd_low hfl))
        have hfd : decide (f < cst s x.c) = true := decide_eq_true hfl
        clear haf
        refine rgn (Cls w8) (by kernel_rfl) (by kernel_rfl) Cls.refl ?_
        iterate 1 (first | (refine qU rfl ?_; simp only [Act.put, List.setIfInBounds_toArray, List.set_cons_zero, List.set_cons_succ]) | (refine qW ?_ rfl rfl (fun w hC K hK => ?_) ?_; rotate_left; (focus ((go_wp2_with fail) <;> exact hK _ hC)); simp only [Act.put, List.setIfInBounds_toArray, List.set_cons_zero, List.set_cons_succ]))
        refine qR _ rfl rfl rfl (fun w hC => hC.blk b8) Try.underlying26 rfl (info_sq _) ?_
        simp only [Act.put, List.setIfInBounds_toArray, List.set_cons_zero, List.set_cons_succ]
        iterate 5 (first | (refine qU rfl ?_; simp only [Act.put, List.setIfInBounds_toArray, List.set_cons_zero, List.set_cons_succ]) | (refine qW ?_ rfl rfl (fun w hC K hK => ?_) ?_; rotate_left; (focus ((go_wp2_with fail) <;> exact hK _ hC)); simp only [Act.put, List.setIfInBounds_toArray, List.set_cons_zero, List.set_cons_succ]))
        refine qC (fun w hC => Calls.cls hC (refCost_ok w s hI HV.out x.c ⟨hu.1, hu.2.1⟩)) rfl (fun w => ?_) ?_
        · go_simp; try rfl
        simp only [Act.put, List.setIfInBounds_toArray, List.set_cons_zero, List.set_cons_succ]
        iterate 2 (first | (refine qU rfl ?_; simp only [Act.put, List.setIfInBounds_toArray, List.set_cons_zero, List.set_cons_succ]) | (refine qW ?_ rfl rfl (fun w hC K hK => ?_) ?_; rotate_left; (focus ((go_wp2_with fail) <;> exact hK _ hC)); simp only [Act.put, List.setIfInBounds_toArray, List.set_cons_zero, List.set_cons_succ]))
        repeat (first | (refine qU rfl ?_; simp only [Act.put, List.setIfInBounds_toArray, List.set_cons_zero, List.set_cons_succ]) | (refine qW ?_ rfl rfl (fun w hC K hK => ?_) ?_; rotate_left; (focus ((go_wp2_with fail) <;> exact hK _ hC)); simp only [Act.put, List.setIfInBounds_toArray, List.set_cons_zero, List.set_cons_succ]))
        refine qN ?_
        intro w' hw'
        have hw9 : Only [] w8 w' := hw'
        revert hw9
        clear hw'
        generalize w' = w9
        intro h9
        have ho9 := ho8.then h9
        go_wp2_with fail
        go_ret2
        exact RunC.of HE.out rfl Reads.none_ (o1.then ho9)
      · have haf0 : 0 ≤ aft s x f ∧ aft s x f ≤ 35184372088832 := by omega
        have hfd : decide (f < cst s x.c) = false := decide_eq_false hfl
        clear haf
        by_cases hov : cap s < aft s x f
        · by_cases hla : k + 1 < us.length
          · have HE := Lib.hid (HP.out.fail Hx.out false (decide_eq_false (by omega)) (by rw [bd_mid hfl]; exact decide_eq_true hov))
            have hfl' : cst s x.c ≤ f := by omega
            clear hfl HP
            have hod : decide (cap s < aft s x f) = true := decide_eq_true hov
            have hld : decide ((k : Int) + 1 < (us.length : Int)) = true := decide_eq_true (by omega)
            refine rgn (Cls w8) (by kernel_rfl) (by kernel_rfl) Cls.refl ?_
            iterate 1 (first | (refine qU rfl ?_; simp only [Act.put, List.setIfInBounds_toArray, List.set_cons_zero, List.set_cons_succ]) | (refine qW ?_ rfl rfl (fun w hC K hK => ?_) ?_; rotate_left; (focus ((go_wp2_with fail) <;> exact hK _ hC)); simp only [Act.put, List.setIfInBounds_toArray, List.set_cons_zero, List.set_cons_succ]))
            refine qR _ rfl rfl rfl (fun w hC => hC.blk b8) Try.underlying26 rfl (info_sq _) ?_
            simp only [Act.put, List.setIfInBounds_toArray, List.set_cons_zero, List.set_cons_succ]
            iterate 5 (first | (refine qU rfl ?_; simp only [Act.put, List.setIfInBounds_toArray, List.set_cons_zero, List.set_cons_succ]) | (refine qW ?_ rfl rfl (fun w hC K hK => ?_) ?_; rotate_left; (focus ((go_wp2_with fail) <;> exact hK _ hC)); simp only [Act.put, List.setIfInBounds_toArray, List.set_cons_zero, List.set_cons_succ]))
            refine qC (fun w hC => Calls.cls hC (refCost_ok w s hI HV.out x.c ⟨hu.1, hu.2.1⟩)) rfl (fun w => ?_) ?_
            · go_simp; try rfl
            simp only [Act.put, List.setIfInBounds_toArray, List.set_cons_zero, List.set_cons_succ]
            iterate 2 (first | (refine qU rfl ?_; simp only [Act.put, List.setIfInBounds_toArray, List.set_cons_zero, List.set_cons_succ]) | (refine qW ?_ rfl rfl (fun w hC K hK => ?_) ?_; rotate_left; (focus ((go_wp2_with fail) <;> exact hK _ hC)); simp only [Act.put, List.setIfInBounds_toArray, List.set_cons_zero, List.set_cons_succ]))
            iterate 2 (first | (refine qU rfl ?_; simp only [Act.put, List.setIfInBounds_toArray, List.set_cons_zero, List.set_cons_succ]) | (refine qW ?_ rfl rfl (fun w hC K hK => ?_) ?_; rotate_left; (focus ((go_wp2_with fail) <;> exact hK _ hC)); simp only [Act.put, List.setIfInBounds_toArray, List.set_cons_zero, List.set_cons_succ]))
            refine qR _ rfl rfl rfl (fun w hC => hC.blk b8) Try.underlying26 rfl (info_sq _) ?_
            simp only [Act.put, List.setIfInBounds_toArray, List.set_cons_zero, List.set_cons_succ]
            refine qC (fun w hC => Calls.cls hC (refCap_ok w s hI HV.out)) rfl (fun w => ?_) ?_
            · go_simp; try rfl
            simp only [Act.put, List.setIfInBounds_toArray, List.set_cons_zero, List.set_cons_succ]
            repeat (first | (refine qU rfl ?_; simp only [Act.put, List.setIfInBounds_toArray, List.set_cons_zero, List.set_cons_succ]) | (refine qW ?_ rfl rfl (fun w hC K hK => ?_) ?_; rotate_left; (focus ((go_wp2_with fail) <;> exact hK _ hC)); simp only [Act.put, List.setIfInBounds_toArray, List.set_cons_zero, List.set_cons_succ]))
            refine qN ?_
            intro w' hw'
            have hw9 : Only [] w8 w' := hw'
            revert hw9
            clear hw'
            generalize w' = w9
            intro h9
            have ho9 := ho8.then h9
            go_wp2_with fail
            go_ret2
            exact RunC.of HE.out rfl Reads.none_ (o1.then ho9)
          · have HPn := Lib.hid (HP.out.step Hx.out true (decide_eq_true (by omega)) (bd_last hfl))
            have hfl' : cst s x.c ≤ f := by omega
            clear hfl HP
            have hod : decide (cap s < aft s x f) = true := decide_eq_true hov
            have hld : decide ((k : Int) + 1 < (us.length : Int)) = false := decide_eq_false (by omega)
            refine rgn (Cls w8) (by kernel_rfl) (by kernel_rfl) Cls.refl ?_
            iterate 1 (first | (refine qU rfl ?_; simp only [Act.put, List.setIfInBounds_toArray, List.set_cons_zero, List.set_cons_succ]) | (refine qW ?_ rfl rfl (fun w hC K hK => ?_) ?_; rotate_left; (focus ((go_wp2_with fail) <;> exact hK _ hC)); simp only [Act.put, List.setIfInBounds_toArray, List.set_cons_zero, List.set_cons_succ]))
            refine qR _ rfl rfl rfl (fun w hC => hC.blk b8) Try.underlying26 rfl (info_sq _) ?_
            simp only [Act.put, List.setIfInBounds_toArray, List.set_cons_zero, List.set_cons_succ]
            iterate 5 (first | (refine qU rfl ?_; simp only [Act.put, List.setIfInBounds_toArray, List.set_cons_zero, List.set_cons_succ]) | (refine qW ?_ rfl rfl (fun w hC K hK => ?_) ?_; rotate_left; (focus ((go_wp2_with fail) <;> exact hK _ hC)); simp only [Act.put, List.setIfInBounds_toArray, List.set_cons_zero, List.set_cons_succ]))
            refine qC (fun w hC => Calls.cls hC (refCost_ok w s hI HV.out x.c ⟨hu.1, hu.2.1⟩)) rfl (fun w => ?_) ?_
            · go_simp; try rfl
            simp only [Act.put, List.setIfInBounds_toArray, List.set_cons_zero, List.set_cons_succ]
            iterate 2 (first | (refine qU rfl ?_; simp only [Act.put, List.setIfInBounds_toArray, List.set_cons_zero, List.set_cons_succ]) | (refine qW ?_ rfl rfl (fun w hC K hK => ?_) ?_; rotate_left; (focus ((go_wp2_with fail) <;> exact hK _ hC)); simp only [Act.put, List.setIfInBounds_toArray, List.set_cons_zero, List.set_cons_succ]))
            iterate 2 (first | (refine qU rfl ?_; simp only [Act.put, List.setIfInBounds_toArray, List.set_cons_zero, List.set_cons_succ]) | (refine qW ?_ rfl rfl (fun w hC K hK => ?_) ?_; rotate_left; (focus ((go_wp2_with fail) <;> exact hK _ hC)); simp only [Act.put, List.setIfInBounds_toArray, List.set_cons_zero, List.set_cons_succ]))
            refine qR _ rfl rfl rfl (fun w hC => hC.blk b8) Try.underlying26 rfl (info_sq _) ?_
            simp only [Act.put, List.setIfInBounds_toArray, List.set_cons_zero, List.set_cons_succ]
            refine qC (fun w hC => Calls.cls hC (refCap_ok w s hI HV.out)) rfl (fun w => ?_) ?_
            · go_simp; try rfl
            simp only [Act.put, List.setIfInBounds_toArray, List.set_cons_zero, List.set_cons_succ]
            repeat (first | (refine qU rfl ?_; simp only [Act.put, List.setIfInBounds_toArray, List.set_cons_zero, List.set_cons_succ]) | (refine qW ?_ rfl rfl (fun w hC K hK => ?_) ?_; rotate_left; (focus ((go_wp2_with fail) <;> exact hK _ hC)); simp only [Act.put, List.setIfInBounds_toArray, List.set_cons_zero, List.set_cons_succ]))
            refine qN ?_
            intro w' hw'
            have hw9 : Only [] w8 w' := hw'
            revert hw9
            clear hw'
            generalize w' = w9
            intro h9
            have ho9 := ho8.then h9
            have hown9 := own_only Hown8.out h9 (fun _ _ => List.not_mem_nil)
            have bl9 := bl8.only h9 (by simp)
            have cl9 := fl _ h9
            have tokA : True := trivial
            have tokL : True := trivial
            go_wp2_with (first | (clear tokL; refine ldL bl9 rfl rfl rfl ?_) | (clear tokA; refine wpList_bs1 rfl 48 55 _ rfl (cs := (lv (f, aft s x f)).toArray) rfl i0 (.agg (lv (0, 0)).toArray) Try.underlying48 hi0 hz0 hz1 rfl rfl (by decide) ?_) | (at_builtin; refine wpList_app _ rfl _ _ 48 rfl 55 i0 (.agg (lv (0, 0)).toArray) 2 16 Try.underlying48 hi0 hz0 hz1 hz2 rfl (by decide) _ _ _ _ rfl (hown9.alloc _) _ 1 1 (lv (f, aft s x f)) rfl ?c1 ?c2 ?c3 ?c4 ?_))
            case c1 => exact ⟨rfl, fun _ => ⟨_, rfl, fun j u hu => by rw [add_plain, (Blk.new _ _ _).cell]; simpa using hu⟩⟩
            case c2 => intro u hu; exact lV_one [(f, aft s x f)] u (by simpa [lV] using hu)
            case c3 => unfold maxLen; omega
            case c4 => omega
            intro A' c' w12 own12 o12 f12
            go_wp2_with fail
            go_roundw
            case rel => exact ⟨k + 1, by omega, by go_num, _, rfl, haf0.1, haf0.2, fun h => absurd h hla, _, HPn, _, _, rfl, (by rw [lV_snoc]; exact own12), (ho9.alloc _).trans o12 hfr, Fresh.trans hfr (Nat.le_trans ho9.size (by simp)) f12⟩
            case measure => simp [intOf]; omega
        · have HPn := Lib.hid (HP.out.step Hx.out _ rfl (by unfold bd; rw [decide_eq_false hfl, decide_eq_false hov]; simp))
          have hle : aft s x f ≤ cap s := by omega
          have hfl' : cst s x.c ≤ f := by omega
          clear hfl HP
          have hod : decide (cap s < aft s x f) = false := decide_eq_false hov
          clear hov
          refine rgn (Cls w8) (by kernel_rfl) (by kernel_rfl) Cls.refl ?_
          iterate 1 (first | (refine qU rfl ?_; simp only [Act.put, List.setIfInBounds_toArray, List.set_cons_zero, List.set_cons_succ]) | (refine qW ?_ rfl rfl (fun w hC K hK => ?_) ?_; rotate_left; (focus ((go_wp2_with fail) <;> exact hK _ hC)); simp only [Act.put, List.setIfInBounds_toArray, List.set_cons_zero, List.set_cons_succ]))
          refine qR _ rfl rfl rfl (fun w hC => hC.blk b8) Try.underlying26 rfl (info_sq _) ?_
          simp only [Act.put, List.setIfInBounds_toArray, List.set_cons_zero, List.set_cons_succ]
          iterate 5 (first | (refine qU rfl ?_; simp only [Act.put, List.setIfInBounds_toArray, List.set_cons_zero, List.set_cons_succ]) | (refine qW ?_ rfl rfl (fun w hC K hK => ?_) ?_; rotate_left; (focus ((go_wp2_with fail) <;> exact hK _ hC)); simp only [Act.put, List.setIfInBounds_toArray, List.set_cons_zero, List.set_cons_succ]))
          refine qC (fun w hC => Calls.cls hC (refCost_ok w s hI HV.out x.c ⟨hu.1, hu.2.1⟩)) rfl (fun w => ?_) ?_
          · go_simp; try rfl
          simp only [Act.put, List.setIfInBounds_toArray, List.set_cons_zero, List.set_cons_succ]
          iterate 2 (first | (refine qU rfl ?_; simp only [Act.put, List.setIfInBounds_toArray, List.set_cons_zero, List.set_cons_succ]) | (refine qW ?_ rfl rfl (fun w hC K hK => ?_) ?_; rotate_left; (focus ((go_wp2_with fail) <;> exact hK _ hC)); simp only [Act.put, List.setIfInBounds_toArray, List.set_cons_zero, List.set_cons_succ]))
          iterate 2 (first | (refine qU rfl ?_; simp only [Act.put, List.setIfInBounds_toArray, List.set_cons_zero, List.set_cons_succ]) | (refine qW ?_ rfl rfl (fun w hC K hK => ?_) ?_; rotate_left; (focus ((go_wp2_with fail) <;> exact hK _ hC)); simp only [Act.put, List.setIfInBounds_toArray, List.set_cons_zero, List.set_cons_succ]))
          refine qR _ rfl rfl rfl (fun w hC => hC.blk b8) Try.underlying26 rfl (info_sq _) ?_
          simp only [Act.put, List.setIfInBounds_toArray, List.set_cons_zero, List.set_cons_succ]
          refine qC (fun w hC => Calls.cls hC (refCap_ok w s hI HV.out)) rfl (fun w => ?_) ?_
          · go_simp; try rfl
          simp only [Act.put, List.setIfInBounds_toArray, List.set_cons_zero, List.set_cons_succ]
          repeat (first | (refine qU rfl ?_; simp only [Act.put, List.setIfInBounds_toArray, List.set_cons_zero, List.set_cons_succ]) | (refine qW ?_ rfl rfl (fun w hC K hK => ?_) ?_; rotate_left; (focus ((go_wp2_with fail) <;> exact hK _ hC)); simp only [Act.put, List.setIfInBounds_toArray, List.set_cons_zero, List.set_cons_succ]))
          refine qN ?_
          intro w' hw'
          have hw9 : Only [] w8 w' := hw'
          revert hw9
          clear hw'
          generalize w' = w9
          intro h9
          have ho9 := ho8.then h9
          have hown9 := own_only Hown8.out h9 (fun _ _ => List.not_mem_nil)
          have bl9 := bl8.only h9 (by simp)
          have cl9 := fl _ h9
          have tokA : True := trivial
          have tokL : True := trivial
          go_wp2_with (first | (clear tokL; refine ldL bl9 rfl rfl rfl ?_) | (clear tokA; refine wpList_bs1 rfl 48 55 _ rfl (cs := (lv (f, aft s x f)).toArray) rfl i0 (.agg (lv (0, 0)).toArray) Try.underlying48 hi0 hz0 hz1 rfl rfl (by decide) ?_) | (at_builtin; refine wpList_app _ rfl _ _ 48 rfl 55 i0 (.agg (lv (0, 0)).toArray) 2 16 Try.underlying48 hi0 hz0 hz1 hz2 rfl (by decide) _ _ _ _ rfl (hown9.alloc _) _ 1 1 (lv (f, aft s x f)) rfl ?c1 ?c2 ?c3 ?c4 ?_))
          case c1 => exact ⟨rfl, fun _ => ⟨_, rfl, fun j u hu => by rw [add_plain, (Blk.new _ _ _).cell]; simpa using hu⟩⟩
          case c2 => intro u hu; exact lV_one [(f, aft s x f)] u (by simpa [lV] using hu)
          case c3 => unfold maxLen; omega
          case c4 => omega
          intro A' c' w12 own12 o12 f12
          go_wp2_with fail
          go_roundw
          case rel => exact ⟨k + 1, by omega, by go_num, _, rfl, haf0.1, haf0.2, fun _ => hle, _, HPn, _, _, rfl, (by rw [lV_snoc]; exact own12), (ho9.alloc _).trans o12 hfr, Fresh.trans hfr (Nat.le_trans ho9.size (by simp)) f12⟩
          case measure => simp [intOf]; omega
    · have hke : k = us.length := by omega
      subst hke
      have HE := Lib.hid HP.out.done
      have HL := Lib.hid HP.out.len
      go_wp2_with fail
      go_ret2
      exact RunC.of HE.out HL.out.symm (Reads.of_own Hown.out) (o1.then ho6)
end Go.Proofs.Ytmghfhjiodeaeaa
