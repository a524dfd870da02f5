/- QuantCoarser: the walk. -/
import Derived.Test.YtdcbkmjmakogeaaQd
namespace Go.Proofs.Ytdcbkmjmakogeaa.quantCoarser
open Go.RowKit

/-- The greater of two entries. -/
def up (m : Nat → Int) (p : List Nat) : Nat → Int := fun j => if j < p.length then max (m j) (p.getD j 0 : Int) else m j
theorem up_U8 {m : Nat → Int} {p : List Nat} (hm : U8 m) (hp : ∀ x ∈ p, x < 256) : U8 (up m p) := by
  intro j hj
  have h1 := hm j hj
  unfold up
  split
  · rename_i h
    have e : p.getD j 0 = p[j] := by simp [h]
    have := hp _ (List.getElem_mem h)
    rw [e]; omega
  · exact h1
theorem le_up (m : Nat → Int) (p : List Nat) (j : Nat) : m j ≤ up m p j := by
  unfold up; split <;> omega

set_option maxHeartbeats 2000000 in
set_option maxRecDepth 100000 in
theorem walk (w : World) (A2 : Option Addr) (c2 : Nat) (p : List Nat) (hr2 : Reads w A2 1 p.length (p.map fun (b : Nat) => Value.int .u8 (b : Int))) (hm2 : p.length ≤ maxLen) (hp : ∀ x ∈ p, x < 256)
    (A3 : Option Addr) (c3 : Nat) (p2 : List Nat) (hr3 : Reads w A3 1 p2.length (p2.map fun (b : Nat) => Value.int .u8 (b : Int))) (hm3 : p2.length ≤ maxLen) (hp2 : ∀ x ∈ p2, x < 256)
    (q : Int) (_hq : -9223372036854775808 ≤ q ∧ q ≤ 9223372036854775807) (r : Int) (_hr : -9223372036854775808 ≤ r ∧ r ≤ 9223372036854775807) :
    Calls Try.prog 10 #[.slice A2 p.length c2, .slice A3 p2.length c3, .int .i64 q, .int .i64 r] w fun e w' => e = .returned (.bool true) ∧ Only [] w w' := by
  have hU := matOf_U8 hp
  generalize hmm : matOf p = m at hU
  have HM := Lib.hid hmm
  clear hmm
  have hU2 := up_U8 hU hp2
  have hm' : (p2.length : Int) ≤ 9223372036854775807 := by simp only [maxLen] at hm3; omega
  go_enter Try.func10, Try.ntmps10
  go_wp2_with fail
  refine (qmatrix_any _ A2 c2 p hr2 hm2).mono ?_
  rintro e w1 ⟨rfl, o1⟩
  rw [HM.out]
  have tok : True := trivial
  have tok2 : True := trivial
  go_wp2_with (first | (clear tok; refine al8 rfl rfl ?_; rintro g1 w2 b2 o2 l2) | (clear tok2; refine sr8 b2 rfl rfl rfl rfl ?_; rintro w3 b3 o3 e3) | refine ld8 b3 rfl rfl rfl ?_ | (refine al8 rfl rfl ?_; rintro g2 w4 b4 o4 l4) | (refine sr8 b4 rfl rfl rfl rfl ?_; rintro w5 b5 o5 e5))
  have hl2 := b2.lt
  have hz1 := o1.size
  have hz2 := o2.size
  have hz4 := o4.size
  have bm5 := (b3.only o4 (by simp)).only o5 (by simp; omega)
  have ho5 := (((o1.then o2).own o3 (by omega)).then o4).own o5 (by omega)
  clear o1 o2 o3 o4 o5 b2 b3 b4
  go_loopw [11] (fun i wr => ∃ k : Nat, k ≤ 64 ∧ k ≤ p2.length ∧ i = .int .i64 k ∧ Only [] w wr ∧ Only [g2] w5 wr ∧ Blk wr g2 23 (arr .u8 64 (mix k (up m p2) m))) (fun i _ => 64 - (intOf i).toNat)
  case atStart => exact ⟨0, by omega, by omega, rfl, ho5, Only.refl _ _, by rw [arr_mix_zero]; exact b5⟩
  case round =>
    obtain ⟨k, hk, hkl, rfl, ho, hoo, hb⟩ := hrel
    by_cases hlt : k < 64 ∧ k < p2.length
    · obtain ⟨hlt, hl⟩ := hlt
      have hd : decide ((k : Int) < 64) = true := by simp; omega
      have hd2 : decide ((k : Int) < (p2.length : Int)) = true := by simp; omega
      have hrr := hr3.then ho
      obtain ⟨b, off, rfl, hc⟩ := hrr.plain (by omega) (by omega)
      have hck : wr.cell? ⟨b, off + k, none⟩ = some (.int .u8 (p2[k] : Int)) := hc k _ (by simp [hl])
      have cm := (bm5.only hoo (by simp; omega)).cell k
      rw [arr_get hlt] at cm
      have hum := hU k hlt
      have hpk := hp2 _ (List.getElem_mem hl)
      have HU := Lib.hid (show up m p2 k = max (m k) (p2[k] : Int) from by unfold up; simp [hl])
      generalize (p2[k] : Nat) = u at hck hpk HU
      have f1 : ∀ w', Cls wr w' → w'.cell? ⟨g1, k, none⟩ = some (.int .u8 (m k)) := fun w' h => h.cell cm
      have f2 : ∀ w', Cls wr w' → w'.cell? ⟨b, off + k, none⟩ = some (.int .u8 (u : Int)) := fun w' h => h.cell hck
      clear hc hrr
      by_cases hlo : m k < (u : Int)
      · go_wp2_with fail
        refine rgnT (Cls wr) 9 (by kernel_rfl) (by kernel_rfl) Cls.refl ?_
        simp only [List.take_succ_cons, List.take_zero, List.drop_succ_cons, List.drop_zero]
        repeat (first | (refine qU rfl ?_; simp only [Act.put, List.setIfInBounds_toArray, List.set_cons_zero, List.set_cons_succ]) | (refine qW ?_ rfl rfl (fun w hC K hK => ?_) ?_; rotate_left; (focus ((go_wp2_with fail) <;> exact hK _ hC)); simp only [Act.put, List.setIfInBounds_toArray, List.set_cons_zero, List.set_cons_succ]))
        refine qN ?_
        intro w' hw'
        have hb3 := hw'.blk hb
        have c3 := hb3.cell k
        rw [arr_get hlt] at c3
        have fz3 := hb3.frozen k
        obtain ⟨s1, s2⟩ := hb3.set1 k (.int .u8 ((u : Int)))
        rw [arr_set_mix (x := up m p2) (v := (u : Int)) hlt (by rw [HU.out]; omega)] at s1
        have On := Lib.hid ((ho.then hw'.only).own s2 (by omega))
        have Onn := Lib.hid ((hoo.then hw'.only).same s2)
        have Hb := Lib.hid s1
        clear s1 s2
        go_wp2_with fail
        exact ⟨⟨k + 1, by omega, by omega, by go_num, On.out, Onn.out, Hb.out⟩, by simp [intOf]; omega⟩
      · go_wp2_with fail
        refine rgnT (Cls wr) 9 (by kernel_rfl) (by kernel_rfl) Cls.refl ?_
        simp only [List.take_succ_cons, List.take_zero, List.drop_succ_cons, List.drop_zero]
        repeat (first | (refine qU rfl ?_; simp only [Act.put, List.setIfInBounds_toArray, List.set_cons_zero, List.set_cons_succ]) | (refine qW ?_ rfl rfl (fun w hC K hK => ?_) ?_; rotate_left; (focus ((go_wp2_with fail) <;> exact hK _ hC)); simp only [Act.put, List.setIfInBounds_toArray, List.set_cons_zero, List.set_cons_succ]))
        refine qN ?_
        intro w' hw'
        have hb3 := hw'.blk hb
        have c3 := hb3.cell k
        rw [arr_get hlt] at c3
        have fz3 := hb3.frozen k
        obtain ⟨s1, s2⟩ := hb3.set1 k (.int .u8 (m k))
        rw [arr_set_mix (x := up m p2) (v := m k) hlt (by rw [HU.out]; omega)] at s1
        have On := Lib.hid ((ho.then hw'.only).own s2 (by omega))
        have Onn := Lib.hid ((hoo.then hw'.only).same s2)
        have Hb := Lib.hid s1
        clear s1 s2
        go_wp2_with fail
        exact ⟨⟨k + 1, by omega, by omega, by go_num, On.out, Onn.out, Hb.out⟩, by simp [intOf]; omega⟩
    · have hbe : Blk wr g2 23 (arr .u8 64 (up m p2)) := by
        rw [arr_congr (y := up m p2)] at hb
        · exact hb
        · intro j hj
          unfold mix
          split
          · rfl
          · unfold up; rw [if_neg (by omega)]
      have bm6 := bm5.only hoo (by simp; omega)
      have ho6 := ho
      obtain ⟨w6, rfl⟩ : ∃ w6, w6 = wr := ⟨_, rfl⟩
      have hend : decide ((k : Int) < 64) = false ∨ (decide ((k : Int) < 64) = true ∧ decide ((k : Int) < (p2.length : Int)) = false) := by
        by_cases h : k < 64
        · exact .inr ⟨by simp; omega, by simp; omega⟩
        · exact .inl (by simp; omega)
      clear hb hoo ho bm5 ho5 b5 hlt
      rcases hend with hd | ⟨hd, hd2⟩
      · have hnk : ¬ k < 64 := by simp at hd; omega
        by_cases hqr : r < q
        · have dq : decide (r < q) = true := by simpa using hqr
          have HO := ho6
          go_wp2_with fail
          refine (awake_any _).mono ?_
          rintro e wa ⟨rfl, oa⟩
          go_wp2_with fail
          go_ret
          exact ⟨rfl, (HO).then oa⟩
        · have dq : decide (r < q) = false := by simpa using hqr
          go_wp2_with (refine gld8 bm6 rfl rfl rfl ?_)
          refine (may_any _ m q).mono ?_
          rintro e w7 ⟨rfl, o7⟩
          have ho7 := ho6.then o7
          have bm7 := bm6.only o7 (by simp)
          have bc7 := hbe.only o7 (by simp)
          cases hma : mayB m q with
          | false =>
            have HO := ho7
            clear hma
            go_wp2_with fail
            refine (awake_any _).mono ?_
            rintro e wa ⟨rfl, oa⟩
            go_wp2_with fail
            go_ret
            exact ⟨rfl, (HO).then oa⟩
          | true =>
            go_wp2_with (refine gld8 bc7 rfl rfl rfl ?_)
            refine (may_any _ (up m p2) r).mono ?_
            rintro e w8 ⟨rfl, o8⟩
            have ho8 := ho7.then o8
            have bm8 := bm7.only o8 (by simp)
            have bc8 := bc7.only o8 (by simp)
            cases hmb : mayB (up m p2) r with
            | false =>
              have HO := ho8
              clear hma hmb
              go_wp2_with fail
              refine (awake_any _).mono ?_
              rintro e wa ⟨rfl, oa⟩
              go_wp2_with fail
              go_ret
              exact ⟨rfl, (HO).then oa⟩
            | true =>
              have h1 : decide (1 ≤ bnd m q) = true := by simpa using bnd_pos hma
              have h2 : decide (bnd m q ≤ bnd (up m p2) r) = true := by simpa using bnd_mono hma hmb (fun n _ => le_up m p2 n) (by omega)
              clear hma hmb
              generalize hb1 : bnd m q = B1 at h1 h2
              generalize hb2 : bnd (up m p2) r = B2 at h2
              have HB1 := Lib.hid hb1
              have HB2 := Lib.hid hb2
              clear hb1 hb2
              go_wp2_with fail
              refine rgn (Cls w8) (by kernel_rfl) (by kernel_rfl) Cls.refl ?_
              refine qC (fun w hC => Calls.cls hC (awake_any w)) rfl (fun w => ?_) ?_
              · go_simp; try rfl
              simp only [Act.put, List.setIfInBounds_toArray, List.set_cons_zero, List.set_cons_succ]
              repeat (first | (refine qU rfl ?_; simp only [Act.put, List.setIfInBounds_toArray, List.set_cons_zero, List.set_cons_succ]) | (refine qW ?_ rfl rfl (fun w hC K hK => ?_) ?_; rotate_left; (focus ((go_wp2_with fail) <;> exact hK _ hC)); simp only [Act.put, List.setIfInBounds_toArray, List.set_cons_zero, List.set_cons_succ]))
              refine qR _ rfl rfl rfl (fun w hC => hC.blk bm8) Try.underlying23 rfl (info_of_arr8 _) ?_
              simp only [Act.put, List.setIfInBounds_toArray, List.set_cons_zero, List.set_cons_succ]
              repeat (first | (refine qU rfl ?_; simp only [Act.put, List.setIfInBounds_toArray, List.set_cons_zero, List.set_cons_succ]) | (refine qW ?_ rfl rfl (fun w hC K hK => ?_) ?_; rotate_left; (focus ((go_wp2_with fail) <;> exact hK _ hC)); simp only [Act.put, List.setIfInBounds_toArray, List.set_cons_zero, List.set_cons_succ]))
              refine qC (fun w hC => Calls.cls hC (HB1.out ▸ bound_any w m q hU)) rfl (fun w => ?_) ?_
              · go_simp; try rfl
              simp only [Act.put, List.setIfInBounds_toArray, List.set_cons_zero, List.set_cons_succ]
              repeat (first | (refine qU rfl ?_; simp only [Act.put, List.setIfInBounds_toArray, List.set_cons_zero, List.set_cons_succ]) | (refine qW ?_ rfl rfl (fun w hC K hK => ?_) ?_; rotate_left; (focus ((go_wp2_with fail) <;> exact hK _ hC)); simp only [Act.put, List.setIfInBounds_toArray, List.set_cons_zero, List.set_cons_succ]))
              refine qR _ rfl rfl rfl (fun w hC => hC.blk bm8) Try.underlying23 rfl (info_of_arr8 _) ?_
              simp only [Act.put, List.setIfInBounds_toArray, List.set_cons_zero, List.set_cons_succ]
              repeat (first | (refine qU rfl ?_; simp only [Act.put, List.setIfInBounds_toArray, List.set_cons_zero, List.set_cons_succ]) | (refine qW ?_ rfl rfl (fun w hC K hK => ?_) ?_; rotate_left; (focus ((go_wp2_with fail) <;> exact hK _ hC)); simp only [Act.put, List.setIfInBounds_toArray, List.set_cons_zero, List.set_cons_succ]))
              refine qC (fun w hC => Calls.cls hC (HB1.out ▸ bound_any w m q hU)) rfl (fun w => ?_) ?_
              · go_simp; try rfl
              simp only [Act.put, List.setIfInBounds_toArray, List.set_cons_zero, List.set_cons_succ]
              refine qR _ rfl rfl rfl (fun w hC => hC.blk bc8) Try.underlying23 rfl (info_of_arr8 _) ?_
              simp only [Act.put, List.setIfInBounds_toArray, List.set_cons_zero, List.set_cons_succ]
              repeat (first | (refine qU rfl ?_; simp only [Act.put, List.setIfInBounds_toArray, List.set_cons_zero, List.set_cons_succ]) | (refine qW ?_ rfl rfl (fun w hC K hK => ?_) ?_; rotate_left; (focus ((go_wp2_with fail) <;> exact hK _ hC)); simp only [Act.put, List.setIfInBounds_toArray, List.set_cons_zero, List.set_cons_succ]))
              refine qC (fun w hC => Calls.cls hC (HB2.out ▸ bound_any w (up m p2) r hU2)) rfl (fun w => ?_) ?_
              · go_simp; try rfl
              simp only [Act.put, List.setIfInBounds_toArray, List.set_cons_zero, List.set_cons_succ]
              repeat (first | (refine qU rfl ?_; simp only [Act.put, List.setIfInBounds_toArray, List.set_cons_zero, List.set_cons_succ]) | (refine qW ?_ rfl rfl (fun w hC K hK => ?_) ?_; rotate_left; (focus ((go_wp2_with fail) <;> exact hK _ hC)); simp only [Act.put, List.setIfInBounds_toArray, List.set_cons_zero, List.set_cons_succ]))
              refine qN ?_
              intro w' hw'
              go_wp2_with fail
              go_ret
              exact ⟨rfl, ho8.then hw'.only⟩
      · have hnl : ¬ k < p2.length := by simp at hd2; omega
        by_cases hqr : r < q
        · have dq : decide (r < q) = true := by simpa using hqr
          have HO := ho6
          go_wp2_with fail
          refine (awake_any _).mono ?_
          rintro e wa ⟨rfl, oa⟩
          go_wp2_with fail
          go_ret
          exact ⟨rfl, (HO).then oa⟩
        · have dq : decide (r < q) = false := by simpa using hqr
          go_wp2_with (refine gld8 bm6 rfl rfl rfl ?_)
          refine (may_any _ m q).mono ?_
          rintro e w7 ⟨rfl, o7⟩
          have ho7 := ho6.then o7
          have bm7 := bm6.only o7 (by simp)
          have bc7 := hbe.only o7 (by simp)
          cases hma : mayB m q with
          | false =>
            have HO := ho7
            clear hma
            go_wp2_with fail
            refine (awake_any _).mono ?_
            rintro e wa ⟨rfl, oa⟩
            go_wp2_with fail
            go_ret
            exact ⟨rfl, (HO).then oa⟩
          | true =>
            go_wp2_with (refine gld8 bc7 rfl rfl rfl ?_)
            refine (may_any _ (up m p2) r).mono ?_
            rintro e w8 ⟨rfl, o8⟩
            have ho8 := ho7.then o8
            have bm8 := bm7.only o8 (by simp)
            have bc8 := bc7.only o8 (by simp)
            cases hmb : mayB (up m p2) r with
            | false =>
              have HO := ho8
              clear hma hmb
              go_wp2_with fail
              refine (awake_any _).mono ?_
              rintro e wa ⟨rfl, oa⟩
              go_wp2_with fail
              go_ret
              exact ⟨rfl, (HO).then oa⟩
            | true =>
              have h1 : decide (1 ≤ bnd m q) = true := by simpa using bnd_pos hma
              have h2 : decide (bnd m q ≤ bnd (up m p2) r) = true := by simpa using bnd_mono hma hmb (fun n _ => le_up m p2 n) (by omega)
              clear hma hmb
              generalize hb1 : bnd m q = B1 at h1 h2
              generalize hb2 : bnd (up m p2) r = B2 at h2
              have HB1 := Lib.hid hb1
              have HB2 := Lib.hid hb2
              clear hb1 hb2
              go_wp2_with fail
              refine rgn (Cls w8) (by kernel_rfl) (by kernel_rfl) Cls.refl ?_
              refine qC (fun w hC => Calls.cls hC (awake_any w)) rfl (fun w => ?_) ?_
              · go_simp; try rfl
              simp only [Act.put, List.setIfInBounds_toArray, List.set_cons_zero, List.set_cons_succ]
              repeat (first | (refine qU rfl ?_; simp only [Act.put, List.setIfInBounds_toArray, List.set_cons_zero, List.set_cons_succ]) | (refine qW ?_ rfl rfl (fun w hC K hK => ?_) ?_; rotate_left; (focus ((go_wp2_with fail) <;> exact hK _ hC)); simp only [Act.put, List.setIfInBounds_toArray, List.set_cons_zero, List.set_cons_succ]))
              refine qR _ rfl rfl rfl (fun w hC => hC.blk bm8) Try.underlying23 rfl (info_of_arr8 _) ?_
              simp only [Act.put, List.setIfInBounds_toArray, List.set_cons_zero, List.set_cons_succ]
              repeat (first | (refine qU rfl ?_; simp only [Act.put, List.setIfInBounds_toArray, List.set_cons_zero, List.set_cons_succ]) | (refine qW ?_ rfl rfl (fun w hC K hK => ?_) ?_; rotate_left; (focus ((go_wp2_with fail) <;> exact hK _ hC)); simp only [Act.put, List.setIfInBounds_toArray, List.set_cons_zero, List.set_cons_succ]))
              refine qC (fun w hC => Calls.cls hC (HB1.out ▸ bound_any w m q hU)) rfl (fun w => ?_) ?_
              · go_simp; try rfl
              simp only [Act.put, List.setIfInBounds_toArray, List.set_cons_zero, List.set_cons_succ]
              repeat (first | (refine qU rfl ?_; simp only [Act.put, List.setIfInBounds_toArray, List.set_cons_zero, List.set_cons_succ]) | (refine qW ?_ rfl rfl (fun w hC K hK => ?_) ?_; rotate_left; (focus ((go_wp2_with fail) <;> exact hK _ hC)); simp only [Act.put, List.setIfInBounds_toArray, List.set_cons_zero, List.set_cons_succ]))
              refine qR _ rfl rfl rfl (fun w hC => hC.blk bm8) Try.underlying23 rfl (info_of_arr8 _) ?_
              simp only [Act.put, List.setIfInBounds_toArray, List.set_cons_zero, List.set_cons_succ]
              repeat (first | (refine qU rfl ?_; simp only [Act.put, List.setIfInBounds_toArray, List.set_cons_zero, List.set_cons_succ]) | (refine qW ?_ rfl rfl (fun w hC K hK => ?_) ?_; rotate_left; (focus ((go_wp2_with fail) <;> exact hK _ hC)); simp only [Act.put, List.setIfInBounds_toArray, List.set_cons_zero, List.set_cons_succ]))
              refine qC (fun w hC => Calls.cls hC (HB1.out ▸ bound_any w m q hU)) rfl (fun w => ?_) ?_
              · go_simp; try rfl
              simp only [Act.put, List.setIfInBounds_toArray, List.set_cons_zero, List.set_cons_succ]
              refine qR _ rfl rfl rfl (fun w hC => hC.blk bc8) Try.underlying23 rfl (info_of_arr8 _) ?_
              simp only [Act.put, List.setIfInBounds_toArray, List.set_cons_zero, List.set_cons_succ]
              repeat (first | (refine qU rfl ?_; simp only [Act.put, List.setIfInBounds_toArray, List.set_cons_zero, List.set_cons_succ]) | (refine qW ?_ rfl rfl (fun w hC K hK => ?_) ?_; rotate_left; (focus ((go_wp2_with fail) <;> exact hK _ hC)); simp only [Act.put, List.setIfInBounds_toArray, List.set_cons_zero, List.set_cons_succ]))
              refine qC (fun w hC => Calls.cls hC (HB2.out ▸ bound_any w (up m p2) r hU2)) rfl (fun w => ?_) ?_
              · go_simp; try rfl
              simp only [Act.put, List.setIfInBounds_toArray, List.set_cons_zero, List.set_cons_succ]
              repeat (first | (refine qU rfl ?_; simp only [Act.put, List.setIfInBounds_toArray, List.set_cons_zero, List.set_cons_succ]) | (refine qW ?_ rfl rfl (fun w hC K hK => ?_) ?_; rotate_left; (focus ((go_wp2_with fail) <;> exact hK _ hC)); simp only [Act.put, List.setIfInBounds_toArray, List.set_cons_zero, List.set_cons_succ]))
              refine qN ?_
              intro w' hw'
              go_wp2_with fail
              go_ret
              exact ⟨rfl, ho8.then hw'.only⟩
end Go.Proofs.Ytdcbkmjmakogeaa.quantCoarser
