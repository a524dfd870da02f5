/- The contract of quant.Quantise. -/
import Derived.Test.YtmjjdehicngffaaDoorQ3
namespace Go.Proofs.YtmjjdehicngffaaDoor
open Go.RowKit

theorem u64_negneg (z : Int) (h : 0 < z ∧ z ≤ 9223372036854775808) : IntKind.u64.wrap (-IntKind.u64.wrap (-z)) = z := by
  have h1 : IntKind.u64.wrap (-z) = 18446744073709551616 - z := by
    simp [IntKind.wrap, IntKind.bits, IntKind.signed]; omega
  rw [h1]
  simp [IntKind.wrap, IntKind.bits, IntKind.signed]; omega
theorem arr_upd2 {n m : Nat} {x : Nat → Int} {u v : Int} : arr .i64 n (upd (upd x m u) m v) = arr .i64 n (upd x m v) := arr_congr (fun j _ => by unfold upd; split <;> rfl)

set_option maxHeartbeats 2000000 in
set_option maxRecDepth 100000 in
theorem quant_any (w : World) (y m : Nat → Int) (q : Int) (hy : I64 64 y) (hm : U8 m) :
    Calls Tryd.prog 17 #[.agg (arr .i64 64 y), .agg (arr .u8 64 m), .int .i64 q] w fun e w' => e = .returned (.tuple #[.agg (arr .i64 64 (qz y m q)), .int .i64 (qe y m q)]) ∧ Only [] w w' := by
  go_enter Tryd.func17, Tryd.ntmps17
  go_wp2_with (first | (refine bx64 (x := y) rfl rfl rfl ?_; rintro g1 w1 b1 o1 l1) | (refine bx8 (x := m) rfl rfl rfl ?_; rintro g2 w2 b2 o2 l2) | (refine al64 rfl rfl ?_; rintro g3 w3 b3 o3 l3) | (have h2 := b2.only o3 (by simp); refine ld8 h2 rfl rfl rfl ?_))
  have hz1 := o1.size
  have hz2 := o2.size
  have hz3 := o3.size
  have hl1 := b1.lt
  have hl2 := b2.lt
  have hl3 := b3.lt
  have hy3 := (b1.only o2 (by simp)).only o3 (by simp)
  have ho3 := (o1.then o2).then o3
  clear o1 o2 o3 b1 b2
  refine (valid_any _ m).mono ?_
  rintro e w4 ⟨rfl, o4⟩
  have ho4 := ho3.then o4
  have hy4 := hy3.only o4 (by simp)
  have hm4 := h2.only o4 (by simp)
  have hr4 := b3.only o4 (by simp)
  have hz4 := o4.size
  clear o4 hy3 h2 b3 ho3
  cases hv : vld m 64 with
  | false =>
    have E := Lib.hid (badQ y m q (by unfold mayB; rw [hv]; rfl))
    clear hv
    go_wp2_with (first | refine bld64 rfl rfl ?_ | (refine sr64 hr4 rfl rfl rfl rfl ?_; rintro wz bz oz ez))
    exact bodyPost_ret (res2_64 rfl bz rfl) rfl ⟨by rw [E.out.1, E.out.2]; rfl, (ho4).own oz (by omega)⟩
  | true =>
   go_wp2_with fail
   refine (vq_any _ q).mono ?_
   rintro e wv ⟨rfl, rfl⟩
   cases hq0 : vq q with
   | false =>
    have E := Lib.hid (badQ y m q (by unfold mayB; rw [hq0]; simp))
    clear hv hq0
    go_wp2_with (first | refine bld64 rfl rfl ?_ | (refine sr64 hr4 rfl rfl rfl rfl ?_; rintro wz bz oz ez))
    exact bodyPost_ret (res2_64 rfl bz rfl) rfl ⟨by rw [E.out.1, E.out.2]; rfl, (ho4).own oz (by omega)⟩
   | true =>
    have hmay : mayB m q = true := by unfold mayB; rw [hv, hq0]; rfl
    clear hv hq0
    have hq : 1 ≤ q ∧ q ≤ 31 := may_q hmay
    have hv := may_v hmay
    have HM := Lib.hid hmay
    clear hmay
    go_wp2_with (first | (refine al64 rfl rfl ?_; rintro g4 w5 b5 o5 l5) | (have hy5' := hy4.only o5 (by simp); refine ld64 (x := y) (g := g1) hy5' rfl rfl rfl ?_))
    have ho5 := ho4.then o5
    have hy5 := hy4.only o5 (by simp)
    have hm5 := hm4.only o5 (by simp)
    have hr5 := hr4.only o5 (by simp)
    clear o5 hy4 hm4 hr4 ho4
    go_loopw [25] (fun i wr => ∃ k : Nat, k ≤ 64 ∧ i = .int .i64 k ∧ Only [] w wr ∧ Only [g4] w5 wr ∧ Blk wr g4 23 (arr .i64 64 (upto k (lvs y m q))) ∧ inside (lvs y m q) 4095 k = true) (fun i _ => 64 - (intOf i).toNat)
    case atStart => exact ⟨0, by omega, rfl, ho5, Only.refl _ _, by rw [arr_upto_zero]; exact b5, rfl⟩
    case round =>
      obtain ⟨k, hk, rfl, ho, hoo, hb, hin⟩ := hrel
      have Hin := Lib.hid hin
      clear hin
      by_cases hlt : k < 64
      · have hd : decide ((k : Int) < 64) = true := by simp; omega
        have hyk := hy k hlt
        have hmk0 := hm k hlt
        have hmk : 8 ≤ m k ∧ m k ≤ 255 := ⟨hv k hlt, hmk0.2⟩
        have hs := mqg_bd hmk hq hlt
        have cy := (hy5.only hoo (by simp; omega)).cell k
        rw [arr_get hlt] at cy
        have cm := (hm5.only hoo (by simp; omega)).cell k
        rw [arr_get hlt] at cm
        have hcg := hb.cell k
        rw [arr_get hlt] at hcg
        have hfz := hb.frozen k
        have hr := hr5.only hoo (by simp; omega)
        have fy : ∀ w', Cls wr w' → w'.cell? ⟨g1, k, none⟩ = some (.int .i64 (y k)) := fun w' h => h.cell cy
        have fm : ∀ w', Cls wr w' → w'.cell? ⟨g2, k, none⟩ = some (.int .u8 (m k)) := fun w' h => h.cell cm
        have hat := idx64 y k hlt
        have HL := Lib.hid (show lvs y m q k = lv (y k) (m k * q * Gk k) from rfl)
        go_wp2_with fail
        refine (step_in _ (m k) q k hmk hq hlt).mono ?_
        rintro e wq ⟨rfl, oq⟩
        have hb3 := hb.only oq (by simp)
        have hr3 := hr.only oq (by simp)
        have hoq := ho.then oq
        have hooq := hoo.then oq
        generalize m k * q * Gk k = s at hs HL
        have n0 : (s == 0) = false := by simp; omega
        have n1 : ¬ s = 0 := by omega
        clear hb hr ho hoo oq fy fm cy cm hcg hfz
        have c3 := hb3.cell k
        rw [arr_get hlt] at c3
        have fz3 := hb3.frozen k
        generalize y k = v at hat hyk HL
        by_cases hneg : v < 0
        · obtain ⟨z, rfl⟩ : ∃ z, v = -z := ⟨-v, by omega⟩
          have hm0 := mod_bd z (s := s) (by omega)
          have hd0 := div_le (z := z) (s := s) (by omega) (by omega)
          have hd2 := div160 (z := z) (s := s) (by omega) (by omega)
          rw [lv_neg (by omega) (by omega)] at HL
          have dy : decide (0 < z) = true := by simp; omega
          have hzp : 0 < z := by omega
          have hwz : IntKind.u64.wrap (-IntKind.u64.wrap (-z)) = z := u64_negneg z (by omega)
          go_wp2_with fail
          clear hwz
          refine rgn (Cls wq) (by kernel_rfl) (by kernel_rfl) Cls.refl ?_
          repeat (first | (refine qU rfl ?_; simp only [Act.put, List.setIfInBounds_toArray, List.set_cons_zero, List.set_cons_succ]) | (refine qW ?_ rfl rfl (fun w hC K hK => ?_) ?_; rotate_left; (focus ((go_wp2_with fail) <;> exact hK _ hC)); simp only [Act.put, List.setIfInBounds_toArray, List.set_cons_zero, List.set_cons_succ]))
          refine qN ?_
          intro w' hw'
          have hb4 := hw'.blk hb3
          have hr4 := hw'.blk hr3
          have hoq4 := hoq.then hw'.only
          have hooq4 := hooq.then hw'.only
          have c4 := hb4.cell k
          rw [arr_get hlt] at c4
          have fz4 := hb4.frozen k
          by_cases hh : s - z % s ≤ z % s
          · have dh : decide (s - z % s ≤ z % s) = true := by simpa using hh
            rw [if_pos hh] at HL
            by_cases hbig : 4095 < z / s + 1
            · have db : decide (4095 < z / s + 1) = true := by simp; omega
              have E := Lib.hid (outQ y m q HM.out (inside_false hlt (by rw [HL.out]; omega)))
              go_wp2_with (first | refine bld64 rfl rfl ?_ | (refine sr64 hr4 rfl rfl rfl rfl ?_; rintro wz bz oz ez))
              exact bodyPost_ret (res2_64 rfl bz rfl) rfl ⟨by rw [E.out.1, E.out.2]; rfl, (hoq4).own oz (by omega)⟩
            · have db : decide (4095 < z / s + 1) = false := by simp; omega
              have Hn := Lib.hid (inside_succ (m := 4095) Hin.out (by rw [HL.out]; omega))
              obtain ⟨s1, s2⟩ := hb4.set1 k (.int .i64 (z / s + 1))
              obtain ⟨s3, s4⟩ := s1.set1 k (.int .i64 (-(z / s + 1)))
              have c5 := s1.cell k
              rw [arr_set _ hlt, arr_get hlt] at c5
              simp only [upd, if_true] at c5
              have fz5 := s1.frozen k
              have On := Lib.hid ((hoq4.own s2 (by omega)).own s4 (by omega))
              have Onn := Lib.hid ((hooq4.same s2).same s4)
              have e5 : ((arr .i64 64 (upto k (lvs y m q))).setIfInBounds k (.int .i64 (z / s + 1))).setIfInBounds k (.int .i64 (-(z / s + 1))) = arr .i64 64 (upto (k + 1) (lvs y m q)) := by
                rw [arr_set _ hlt, arr_set _ hlt, arr_upd2, ← arr_set _ hlt, arr_set_upto hlt HL.out]
              have Hb := Lib.hid (show Blk _ g4 23 (arr .i64 64 (upto (k + 1) (lvs y m q))) from e5 ▸ s3)
              clear s1 s2 s3 s4 e5
              go_wp2_with fail
              exact ⟨⟨k + 1, by omega, by go_num, On.out, Onn.out, Hb.out, Hn.out⟩, by simp [intOf]; omega⟩
          · have dh : decide (s - z % s ≤ z % s) = false := by simpa using hh
            rw [if_neg hh] at HL
            rw [Int.add_zero] at HL
            by_cases hbig : 4095 < z / s
            · have db : decide (4095 < z / s) = true := by simp; omega
              have E := Lib.hid (outQ y m q HM.out (inside_false hlt (by rw [HL.out]; omega)))
              go_wp2_with (first | refine bld64 rfl rfl ?_ | (refine sr64 hr4 rfl rfl rfl rfl ?_; rintro wz bz oz ez))
              exact bodyPost_ret (res2_64 rfl bz rfl) rfl ⟨by rw [E.out.1, E.out.2]; rfl, (hoq4).own oz (by omega)⟩
            · have db : decide (4095 < z / s) = false := by simp; omega
              have Hn := Lib.hid (inside_succ (m := 4095) Hin.out (by rw [HL.out]; omega))
              obtain ⟨s1, s2⟩ := hb4.set1 k (.int .i64 (z / s))
              obtain ⟨s3, s4⟩ := s1.set1 k (.int .i64 (-(z / s)))
              have c5 := s1.cell k
              rw [arr_set _ hlt, arr_get hlt] at c5
              simp only [upd, if_true] at c5
              have fz5 := s1.frozen k
              have On := Lib.hid ((hoq4.own s2 (by omega)).own s4 (by omega))
              have Onn := Lib.hid ((hooq4.same s2).same s4)
              have e5 : ((arr .i64 64 (upto k (lvs y m q))).setIfInBounds k (.int .i64 (z / s))).setIfInBounds k (.int .i64 (-(z / s))) = arr .i64 64 (upto (k + 1) (lvs y m q)) := by
                rw [arr_set _ hlt, arr_set _ hlt, arr_upd2, ← arr_set _ hlt, arr_set_upto hlt HL.out]
              have Hb := Lib.hid (show Blk _ g4 23 (arr .i64 64 (upto (k + 1) (lvs y m q))) from e5 ▸ s3)
              clear s1 s2 s3 s4 e5
              go_wp2_with fail
              exact ⟨⟨k + 1, by omega, by go_num, On.out, Onn.out, Hb.out, Hn.out⟩, by simp [intOf]; omega⟩
        · have hm0 := mod_bd v (s := s) (by omega)
          have hd0 := div_le (z := v) (s := s) (by omega) (by omega)
          have hd2 := div160 (z := v) (s := s) (by omega) (by omega)
          rw [lv_pos (by omega) (by omega)] at HL
          have dy : decide (v < 0) = false := by simp; omega
          go_wp2_with fail
          refine rgn (Cls wq) (by kernel_rfl) (by kernel_rfl) Cls.refl ?_
          repeat (first | (refine qU rfl ?_; simp only [Act.put, List.setIfInBounds_toArray, List.set_cons_zero, List.set_cons_succ]) | (refine qW ?_ rfl rfl (fun w hC K hK => ?_) ?_; rotate_left; (focus ((go_wp2_with fail) <;> exact hK _ hC)); simp only [Act.put, List.setIfInBounds_toArray, List.set_cons_zero, List.set_cons_succ]))
          refine qN ?_
          intro w' hw'
          have hb4 := hw'.blk hb3
          have hr4 := hw'.blk hr3
          have hoq4 := hoq.then hw'.only
          have hooq4 := hooq.then hw'.only
          have c4 := hb4.cell k
          rw [arr_get hlt] at c4
          have fz4 := hb4.frozen k
          by_cases hh : s - v % s ≤ v % s
          · have dh : decide (s - v % s ≤ v % s) = true := by simpa using hh
            rw [if_pos hh] at HL
            by_cases hbig : 4095 < v / s + 1
            · have db : decide (4095 < v / s + 1) = true := by simp; omega
              have E := Lib.hid (outQ y m q HM.out (inside_false hlt (by rw [HL.out]; omega)))
              go_wp2_with (first | refine bld64 rfl rfl ?_ | (refine sr64 hr4 rfl rfl rfl rfl ?_; rintro wz bz oz ez))
              exact bodyPost_ret (res2_64 rfl bz rfl) rfl ⟨by rw [E.out.1, E.out.2]; rfl, (hoq4).own oz (by omega)⟩
            · have db : decide (4095 < v / s + 1) = false := by simp; omega
              have Hn := Lib.hid (inside_succ (m := 4095) Hin.out (by rw [HL.out]; omega))
              obtain ⟨s1, s2⟩ := hb4.set1 k (.int .i64 (v / s + 1))
              rw [arr_set_upto hlt HL.out] at s1
              have On := Lib.hid (hoq4.own s2 (by omega))
              have Onn := Lib.hid (hooq4.same s2)
              have Hb := Lib.hid s1
              clear s1 s2
              go_wp2_with fail
              exact ⟨⟨k + 1, by omega, by go_num, On.out, Onn.out, Hb.out, Hn.out⟩, by simp [intOf]; omega⟩
          · have dh : decide (s - v % s ≤ v % s) = false := by simpa using hh
            rw [if_neg hh] at HL
            rw [Int.add_zero] at HL
            by_cases hbig : 4095 < v / s
            · have db : decide (4095 < v / s) = true := by simp; omega
              have E := Lib.hid (outQ y m q HM.out (inside_false hlt (by rw [HL.out]; omega)))
              go_wp2_with (first | refine bld64 rfl rfl ?_ | (refine sr64 hr4 rfl rfl rfl rfl ?_; rintro wz bz oz ez))
              exact bodyPost_ret (res2_64 rfl bz rfl) rfl ⟨by rw [E.out.1, E.out.2]; rfl, (hoq4).own oz (by omega)⟩
            · have db : decide (4095 < v / s) = false := by simp; omega
              have Hn := Lib.hid (inside_succ (m := 4095) Hin.out (by rw [HL.out]; omega))
              obtain ⟨s1, s2⟩ := hb4.set1 k (.int .i64 (v / s))
              rw [arr_set_upto hlt HL.out] at s1
              have On := Lib.hid (hoq4.own s2 (by omega))
              have Onn := Lib.hid (hooq4.same s2)
              have Hb := Lib.hid s1
              clear s1 s2
              go_wp2_with fail
              exact ⟨⟨k + 1, by omega, by go_num, On.out, Onn.out, Hb.out, Hn.out⟩, by simp [intOf]; omega⟩
      · obtain rfl : k = 64 := by omega
        rw [arr_upto_all (by omega)] at hb
        have E := Lib.hid (goodQ y m q HM.out Hin.out)
        have h3 := hr5.only hoo (by simp; omega)
        go_wp2_with (first | refine ld64 hb rfl rfl rfl ?_ | (refine sr64 h3 rfl rfl rfl rfl ?_; rintro wz bz oz ez))
        exact bodyPost_ret (res2_64 rfl bz rfl) rfl ⟨by rw [E.out.1, E.out.2]; rfl, ho.own oz (by omega)⟩
end Go.Proofs.YtmjjdehicngffaaDoor
