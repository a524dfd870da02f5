/- Contract of run. -/
import Derived.Test.YtmghfhjiodeaeaaP4
namespace Go.Proofs.Ytmghfhjiodeaeaa
open Go.RowKit

theorem lV_snoc (l : List (Int × Int)) (p : Int × Int) : lV (l ++ [p]) = lV l ++ lv p := by rw [lV_append]; simp [lV]
set_option maxHeartbeats 2000000 in
set_option maxRecDepth 100000 in
theorem run_any (w : World) (s : Sq) (hk : Ok s) (A : Option Addr) (c : Nat) (us : List Un) (st : Int) (hr : Reads w A 4 us.length (uV us)) (hs0 : 0 ≤ st) (hs1 : st ≤ cap s) (hlen : us.length ≤ 256) (hall : ∀ x ∈ us, uok x = true) :
    Calls Try.prog 37 #[.agg (sqA s), .slice A us.length c, .int .i64 st] w (RunC s us st w) := by
  obtain ⟨i0, hi0, hz0, hz1, hz2⟩ := info_parts info_lv
  have Hr := Lib.hid hr
  have Hall := Lib.hid hall
  clear hr hall
  have hcap := cap_bd hk
  go_enter Try.func37, Try.ntmps37
  have tok : True := trivial
  go_wp2_with (clear tok; refine bxB (s := s) rfl rfl rfl ?_; rintro g1 w1 b1 o1 l1)
  go_loopw [6, 8, 16] (fun o f i wr => ∃ k : Nat, k ≤ us.length ∧ i = .int .i64 (k : Int) ∧ ∃ fv : Int, f = .int .i64 fv ∧ 0 ≤ fv ∧ fv ≤ 35184372088832 ∧ (k < us.length → fv ≤ cap s) ∧ ∃ ls, Hid (RI s us st k fv ls) ∧ ∃ A c, o = .slice A k c ∧ Hid (wr.ownsRow 0 54 2 (.slice A k c) k (lV ls)) ∧ Only [] w1 wr ∧ Fresh w1 [] (rowFp (.slice A k c))) (fun _ _ i _ => us.length - (intOf i).toNat)
  case atStart => exact ⟨0, Nat.zero_le _, rfl, st, rfl, by omega, by omega, fun _ => hs1, [], RI.start _ _ _, none, 0, rfl, World.ownsRow_nil _ _ _ _, Only.refl _ _, by simp [Fresh, rowFp, Value.ownBlock]⟩
  case round =>
    obtain ⟨k, hkl, rfl, f, rfl, hf0, hf1, hf2, ls, HP, Ao, co, rfl, Hown, ho6, hfr⟩ := hrel
    by_cases hlt : k < us.length
    · have hfc := hf2 hlt
      clear hf2
      obtain ⟨x, hx⟩ : ∃ x, us[k]? = some x := ⟨_, List.getElem?_eq_getElem hlt⟩
      obtain ⟨b, off, rfl, hR⟩ := (Hr.out.then (o1.then ho6)).ur rfl hx
      have hu := uok_true (Hall.out x (List.mem_of_getElem? hx))
      have hcb := cst_bd hk (b := x.c) (by omega)
      have hab := arl_bd hk (f := x.d) (by omega)
      have Hx := Lib.hid hx
      have b6 := b1.only ho6 (by simp)
      have hkl' : (k : Int) < (us.length : Int) := by omega
      clear hx
      have tok4 : True := trivial
      have tok5 : True := trivial
      have tok6 : True := trivial
      have tok7 : True := trivial
      go_wp2_with (first | (clear tok4; refine ldU hR rfl rfl rfl ?_) | (clear tok5; refine alU rfl rfl ?_; rintro g7 w7 b7 o7 l7) | (clear tok6; refine srU b7 rfl rfl rfl rfl ?_; rintro w8 b8 o8 l8; obtain ⟨_, _, c2, c3⟩ := b8.un) | (clear tok7; refine ldB (b6.only (Only.own o7 o8 l7) (by simp)) rfl rfl rfl ?_))
      have o78 := Only.own o7 o8 l7
      refine (cost_any _ s hk x.c ⟨hu.1, hu.2.1⟩).mono ?_
      rintro e w9 ⟨rfl, o9⟩
      have b9 := b8.only o9 (by simp)
      have o69 := o78.then o9
      have ho9 := ho6.then o69
      have bb9 := b6.only o69 (by simp)
      have Hown9 := Lib.hid (own_only Hown.out o69 (fun _ _ => List.not_mem_nil))
      clear o7 o8 b7 b8 hR b6 o78 o69 o9 Hown c2 c3
      obtain ⟨_, _, _, c3⟩ := b9.un
      have tok8 : True := trivial
      go_wp2_with (clear tok8; refine ldB bb9 rfl rfl rfl ?_)
      refine (arrival_any _ s hk x.d (by omega)).mono ?_
      rintro e w10 ⟨rfl, o10⟩
      have ho10 := ho9.then o10
      have bb10 := bb9.only o10 (by simp)
      have Hown10 := Lib.hid (own_only Hown9.out o10 (fun _ _ => List.not_mem_nil))
      clear o10 b9 bb9 Hown9 ho9 c3
      have haf : f - cst s x.c + arl s x.d = aft s x f := rfl
      by_cases hfl : f < cst s x.c
      · have HE := Lib.hid (HP.out.fail Hx.out _ rfl (bd_low hfl))
        go_wp2_with fail
        go_ret2
        exact RunC.of HE.out rfl Reads.none_ (o1.then ho10)
      · have hfd : decide (f < cst s x.c) = false := decide_eq_false hfl
        have haf0 : 0 ≤ aft s x f ∧ aft s x f ≤ 35184372088832 := by omega
        by_cases hla : k + 1 < us.length
        · have hlb : (k : Int) < (us.length : Int) - 1 := by omega
          have tok9 : True := trivial
          go_wp2_with (clear tok9; refine gldT bb10 rfl rfl rfl Try.underlying63 rfl (info_bf _) ?_)
          refine (capacity_any _ s hk).mono ?_
          rintro e w11 ⟨rfl, o11⟩
          have ho11 := ho10.then o11
          have hown11 := own_only Hown10.out o11 (fun _ _ => List.not_mem_nil)
          clear o11 bb10 Hown10 ho10
          by_cases hov : cap s < aft s x f
          · have HE := Lib.hid (HP.out.fail Hx.out false (decide_eq_false (by omega)) (by rw [bd_mid (s := s) (x := x) (f := f) (by omega)]; exact decide_eq_true hov))
            go_wp2_with fail
            go_ret2
            exact RunC.of HE.out rfl Reads.none_ (o1.then ho11)
          · have hod : decide (cap s < aft s x f) = false := decide_eq_false hov
            have HPn := Lib.hid (HP.out.step Hx.out false (decide_eq_false (by omega)) (by rw [bd_mid (s := s) (x := x) (f := f) (by omega)]; exact hod))
            have hle : aft s x f ≤ cap s := by omega
            clear hov
            have tokA : True := trivial
            go_wp2_with (first | (clear tokA; refine wpList_bs1 rfl 45 54 _ rfl (cs := (lv (f, aft s x f)).toArray) rfl i0 (.agg (lv (0, 0)).toArray) Try.underlying45 hi0 hz0 hz1 rfl rfl (by decide) ?_) | (at_builtin; refine wpList_app _ rfl _ _ 45 rfl 54 i0 (.agg (lv (0, 0)).toArray) 2 16 Try.underlying45 hi0 hz0 hz1 hz2 rfl (by decide) _ _ _ _ rfl (hown11.alloc _) _ 1 1 (lv (f, aft s x f)) rfl ?c1 ?c2 ?c3 ?c4 ?_))
            case c1 => exact ⟨rfl, fun _ => ⟨_, rfl, fun j u hu => by rw [add_plain, (Blk.new _ _ _).cell]; simpa using hu⟩⟩
            case c2 => intro u hu; exact lV_one [(f, aft s x f)] u (by simpa [lV] using hu)
            case c3 => unfold maxLen; omega
            case c4 => omega
            intro A' c' w12 own12 o12 f12
            go_wp2_with fail
            go_roundw
            case rel => exact ⟨k + 1, by omega, by go_num, _, rfl, haf0.1, haf0.2, fun _ => hle, _, HPn, _, _, rfl, (by rw [lV_snoc]; exact own12), (ho11.alloc _).trans o12 hfr, Fresh.trans hfr (Nat.le_trans ho11.size (by simp)) f12⟩
            case measure => simp [intOf]; omega
        · have hlb : (us.length : Int) - 1 ≤ (k : Int) := by omega
          have HPn := Lib.hid (HP.out.step Hx.out true (decide_eq_true (by omega)) (bd_last (s := s) (x := x) (f := f) (by omega)))
          have hown11 := Hown10.out
          have tokA : True := trivial
          go_wp2_with (first | (clear tokA; refine wpList_bs1 rfl 45 54 _ rfl (cs := (lv (f, aft s x f)).toArray) rfl i0 (.agg (lv (0, 0)).toArray) Try.underlying45 hi0 hz0 hz1 rfl rfl (by decide) ?_) | (at_builtin; refine wpList_app _ rfl _ _ 45 rfl 54 i0 (.agg (lv (0, 0)).toArray) 2 16 Try.underlying45 hi0 hz0 hz1 hz2 rfl (by decide) _ _ _ _ rfl (hown11.alloc _) _ 1 1 (lv (f, aft s x f)) rfl ?c1 ?c2 ?c3 ?c4 ?_))
          case c1 => exact ⟨rfl, fun _ => ⟨_, rfl, fun j u hu => by rw [add_plain, (Blk.new _ _ _).cell]; simpa using hu⟩⟩
          case c2 => intro u hu; exact lV_one [(f, aft s x f)] u (by simpa [lV] using hu)
          case c3 => unfold maxLen; omega
          case c4 => omega
          intro A' c' w12 own12 o12 f12
          go_wp2_with fail
          go_roundw
          case rel => exact ⟨k + 1, by omega, by go_num, _, rfl, haf0.1, haf0.2, fun h => absurd h hla, _, HPn, _, _, rfl, (by rw [lV_snoc]; exact own12), (ho10.alloc _).trans o12 hfr, Fresh.trans hfr (Nat.le_trans ho10.size (by simp)) f12⟩
          case measure => simp [intOf]; omega
    · have hke : k = us.length := by omega
      subst hke
      have HE := Lib.hid HP.out.done
      have HL := Lib.hid HP.out.len
      go_wp2_with fail
      go_ret2
      exact RunC.of HE.out HL.out.symm (Reads.of_own Hown.out) (o1.then ho6)
end Go.Proofs.Ytmghfhjiodeaeaa
