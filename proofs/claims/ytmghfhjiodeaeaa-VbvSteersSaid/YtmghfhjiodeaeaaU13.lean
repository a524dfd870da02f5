/- Contract of the laws' helper 'end'. -/
import Derived.Test.YtmghfhjiodeaeaaP5
namespace Go.Proofs.Ytmghfhjiodeaeaa
open Go.RowKit

theorem Capacity_ok (w : World) (s : Sq) (hI : SqI s) (h : vs s = true) : Calls Try.prog 12 #[.agg (sqA s)] w fun e w' => e = .returned (.int .i64 (cap s)) ∧ Only [] w w' := by
  have := Capacity_any w s hI
  rwa [Cap_ok h] at this
theorem Cost_ok (w : World) (s : Sq) (hI : SqI s) (h : vs s = true) (b : Int) (hb : 0 ≤ b ∧ b ≤ 8388608) : Calls Try.prog 16 #[.agg (sqA s), .int .i64 b] w fun e w' => e = .returned (.int .i64 (cst s b)) ∧ Only [] w w' := by
  have := Cost_any w s hI b
  rwa [Cst_ok h hb] at this
theorem Arrival_ok (w : World) (s : Sq) (hI : SqI s) (h : vs s = true) (f : Int) (hf : 0 ≤ f ∧ f ≤ 3) : Calls Try.prog 14 #[.agg (sqA s), .int .i64 f] w fun e w' => e = .returned (.int .i64 (arl s f)) ∧ Only [] w w' := by
  have := Arrival_any w s hI f
  rwa [Arl_ok h hf] at this
theorem cst16 (s : Sq) : 16 * s.num = cst s 8 := by unfold cst; omega
set_option maxHeartbeats 2000000 in
set_option maxRecDepth 100000 in
theorem end_any (w : World) (s : Sq) (hI : SqI s) (A : Option Addr) (c : Nat) (us : List Un) (st : Int) (hr : Reads w A 4 us.length (uV us)) :
    Calls Try.prog 27 #[.agg (sqA s), .slice A us.length c, .int .i64 st] w fun e w' => e = .returned (.tuple #[.int .i64 (endR s us st).1, .int .i64 (endR s us st).2]) ∧ Only [] w w' := by
  have Hr := Lib.hid hr
  clear hr
  obtain ⟨ns, r, hR⟩ : ∃ ns r, padR s us st = (ns, r) := ⟨_, _, rfl⟩
  have HR := Lib.hid hR
  clear hR
  go_enter Try.func27, Try.ntmps27
  have tok : True := trivial
  have tok2 : True := trivial
  go_wp2_with (first | (clear tok; refine bxS (s := s) rfl rfl rfl ?_; rintro g1 w1 b1 o1 l1) | (clear tok2; refine ldS b1 rfl rfl rfl ?_))
  refine ((Pad_any _ s hI A c us st (Hr.out.then o1)).mono fun e w' h => PadC.to HR.out h).mono ?_
  rintro e w2 ⟨Ap, cp, rfl, rp, o2⟩
  have ho := o1.then o2
  have b2 := b1.only o2 (by simp)
  have Rp := Lib.hid rp
  clear o1 o2 b1 rp
  rcases padR_case s us st with ⟨e1, hp⟩ | ⟨hp, e1, hq⟩ | ⟨hp, p, e1, hq, hl⟩
  · rw [HR.out] at e1
    obtain ⟨rfl, rfl⟩ := Prod.mk.inj e1
    have HE := Lib.hid (endR_bad hp)
    clear hp e1
    go_wp2_with fail
    go_ret2
    exact ⟨by rw [HE.out]; rfl, ho⟩
  · rw [HR.out] at e1
    obtain ⟨rfl, rfl⟩ := Prod.mk.inj e1
    have HE := Lib.hid (endR_none hp hq)
    clear hp e1 hq
    go_wp2_with fail
    go_ret2
    exact ⟨by rw [HE.out]; rfl, ho⟩
  · rw [HR.out] at e1
    obtain ⟨rfl, rfl⟩ := Prod.mk.inj e1
    obtain ⟨ns, fe⟩ := p
    simp only at hl Rp HR ⊢
    have HE := Lib.hid (endR_some hp hq)
    have HQ := Lib.hid hq
    obtain ⟨hv, hs0, hs1, hlen, hall⟩ := prp_true hp
    have hk := (vs_true.1 hv).ok
    have Hall := Lib.hid hall
    have Hv := Lib.hid hv
    clear hp e1 hq hv hall
    have hcap := cap_bd hk
    have h8 := c8_bd hk
    have hnum := hk.num
    have Hl := Lib.hid hl
    have hl2 : (ns.length : Int) = (us.length : Int) := by omega
    clear hl
    go_wp2_with fail
    clear hl2
    go_loopw [10, 11] (fun f i wr => ∃ k : Nat, k ≤ us.length ∧ i = .int .i64 (k : Int) ∧ ∃ fv : Int, f = .int .i64 fv ∧ -17592186044416 ≤ fv ∧ fv ≤ 35184372088832 ∧ (k < us.length → fv ≤ cap s) ∧ Hid (pads s (us.drop k) fv = some (ns.drop k, fe)) ∧ Only [] w2 wr) (fun _ i _ => us.length - (intOf i).toNat)
    case atStart => exact ⟨0, Nat.zero_le _, rfl, st, rfl, by omega, by omega, fun _ => hs1, Lib.hid (by simpa using HQ.out), Only.refl _ _⟩
    case round =>
      obtain ⟨k, hkl, rfl, f, rfl, hf0, hf1, hf2, HP, ho6⟩ := hrel
      by_cases hlt : k < us.length
      · have hfc := hf2 hlt
        clear hf2
        obtain ⟨x, hx⟩ : ∃ x, us[k]? = some x := ⟨_, List.getElem?_eq_getElem hlt⟩
        obtain ⟨b, off, rfl, _, _, c2, c3⟩ := (Hr.out.then (ho.then ho6)).un rfl hx
        obtain ⟨q, nx, hnq, hcf, hq0, hq1, hm0, hm1, hnx, hpn, hn0, hn1, hn2⟩ := end_step hk hx (Hall.out x (List.mem_of_getElem? hx)) Hl.out HP.out hfc
        have hu := uok_true (Hall.out x (List.mem_of_getElem? hx))
        have hcb := cst_bd hk (b := x.c) (by omega)
        have hab := arl_bd hk (f := x.d) (by omega)
        obtain ⟨bp, offp, rfl, cP⟩ := (Rp.out.then ho6).int hnq
        have b6 := b2.only ho6 (by simp)
        have hkl' : (k : Int) < (us.length : Int) := by omega
        have hkn : (k : Int) < (ns.length : Int) := by have := Hl.out; omega
        have cN := b6.sq.2.2.1
        have f2 : ∀ w', Cls wr w' → w'.cell? ⟨b, off + k * 4 + 2, none⟩ = some (.int .i64 x.c) := fun w' h => h.cell c2
        have f3 : ∀ w', Cls wr w' → w'.cell? ⟨b, off + k * 4 + 3, none⟩ = some (.int .i64 x.d) := fun w' h => h.cell c3
        have fP : ∀ w', Cls wr w' → w'.cell? ⟨bp, offp + k, none⟩ = some (.int .i64 q) := fun w' h => h.cell cP
        have fN : ∀ w', Cls wr w' → w'.cell? ⟨g1, 2, none⟩ = some (.int .i64 s.num) := fun w' h => h.cell cN
        have HN := Lib.hid hpn
        have Hn2 := Lib.hid hn2
        clear hx c2 c3 cP cN hnq hpn hn2
        go_wp2_with fail
        have h16 := cst16 s
        refine rgn (Cls wr) (by kernel_rfl) (by kernel_rfl) Cls.refl ?_
        iterate 1 (first | (refine qU rfl ?_; simp only [Act.put, List.setIfInBounds_toArray, List.set_cons_zero, List.set_cons_succ]) | (refine qW ?_ rfl rfl (fun w hC K hK => ?_) ?_; rotate_left; (focus ((go_wp2_with fail) <;> exact hK _ hC)); simp only [Act.put, List.setIfInBounds_toArray, List.set_cons_zero, List.set_cons_succ]))
        refine qR _ rfl rfl rfl (fun w hC => hC.blk b6) Try.underlying26 rfl (info_sq _) ?_
        simp only [Act.put, List.setIfInBounds_toArray, List.set_cons_zero, List.set_cons_succ]
        iterate 5 (first | (refine qU rfl ?_; simp only [Act.put, List.setIfInBounds_toArray, List.set_cons_zero, List.set_cons_succ]) | (refine qW ?_ rfl rfl (fun w hC K hK => ?_) ?_; rotate_left; (focus ((go_wp2_with fail) <;> exact hK _ hC)); simp only [Act.put, List.setIfInBounds_toArray, List.set_cons_zero, List.set_cons_succ]))
        refine qC (fun w hC => Calls.cls hC (Cost_ok w s hI Hv.out x.c ⟨hu.1, hu.2.1⟩)) rfl (fun w => ?_) ?_
        · go_simp; try rfl
        simp only [Act.put, List.setIfInBounds_toArray, List.set_cons_zero, List.set_cons_succ]
        iterate 11 (first | (refine qU rfl ?_; simp only [Act.put, List.setIfInBounds_toArray, List.set_cons_zero, List.set_cons_succ]) | (refine qW ?_ rfl rfl (fun w hC K hK => ?_) ?_; rotate_left; (focus ((go_wp2_with fail) <;> exact hK _ hC)); simp only [Act.put, List.setIfInBounds_toArray, List.set_cons_zero, List.set_cons_succ]))
        refine qR _ rfl rfl rfl (fun w hC => hC.blk b6) Try.underlying26 rfl (info_sq _) ?_
        simp only [Act.put, List.setIfInBounds_toArray, List.set_cons_zero, List.set_cons_succ]
        iterate 5 (first | (refine qU rfl ?_; simp only [Act.put, List.setIfInBounds_toArray, List.set_cons_zero, List.set_cons_succ]) | (refine qW ?_ rfl rfl (fun w hC K hK => ?_) ?_; rotate_left; (focus ((go_wp2_with fail) <;> exact hK _ hC)); simp only [Act.put, List.setIfInBounds_toArray, List.set_cons_zero, List.set_cons_succ]))
        refine qC (fun w hC => Calls.cls hC (Arrival_ok w s hI Hv.out x.d (by omega))) rfl (fun w => ?_) ?_
        · go_simp; try rfl
        simp only [Act.put, List.setIfInBounds_toArray, List.set_cons_zero, List.set_cons_succ]
        repeat (first | (refine qU rfl ?_; simp only [Act.put, List.setIfInBounds_toArray, List.set_cons_zero, List.set_cons_succ]) | (refine qW ?_ rfl rfl (fun w hC K hK => ?_) ?_; rotate_left; (focus ((go_wp2_with fail) <;> exact hK _ hC)); simp only [Act.put, List.setIfInBounds_toArray, List.set_cons_zero, List.set_cons_succ]))
        refine qN ?_
        intro w' hw'
        have ho7 := ho6.then hw'.only
        go_wp2_with fail
        go_roundw
        case rel => exact ⟨k + 1, by omega, by go_num, _, rfl, hn0, hn1, Hn2.out, HN, ho7⟩
        case measure => simp [intOf]; omega
      · have hke : k = us.length := by omega
        subst hke
        have HF := Lib.hid (show f = fe by have := HP.out; rw [List.drop_length] at this; simp [pads] at this; exact this.2)
        go_wp2_with fail
        go_ret2
        exact ⟨by rw [HE.out, HF.out]; rfl, ho.then ho6⟩
end Go.Proofs.Ytmghfhjiodeaeaa
