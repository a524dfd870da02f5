/- Contracts of chapter 6's Quantise and Dequantise, in the program and in the reference. -/
import Derived.Test.YtdcbkmjmakogeaaQp
import Derived.Test.YtdcbkmjmakogeaaRegA
namespace Go.Proofs.Ytdcbkmjmakogeaa
open Go.RowKit

/-- The steps, the levels, the values. -/
def stp (m : Nat → Int) (q : Int) (k : Nat) : Int := m k * q * Gk k
def lvs (y m : Nat → Int) (q : Int) : Nat → Int := fun k => lv (y k) (m k * q * Gk k)
def dqs (l m : Nat → Int) (q : Int) : Nat → Int := fun k => l k * (m k * q * Gk k)
def qz (y m : Nat → Int) (q : Int) : Nat → Int := if mayB m q = true ∧ inside (lvs y m q) 4095 64 = true then lvs y m q else fun _ => 0
def qe (y m : Nat → Int) (q : Int) : Int := if mayB m q = true then (if inside (lvs y m q) 4095 64 = true then 0 else 2) else 1
def dz (y m : Nat → Int) (q : Int) : Nat → Int := if mayB m q = true ∧ inside y 4095 64 = true then dqs y m q else fun _ => 0
def de (y m : Nat → Int) (q : Int) : Int := if mayB m q = true then (if inside y 4095 64 = true then 0 else 2) else 1
theorem may_q {m : Nat → Int} {q : Int} (h : mayB m q = true) : 1 ≤ q ∧ q ≤ 31 := by
  unfold mayB at h; rw [Bool.and_eq_true] at h; exact vq_true.1 h.2
theorem may_v {m : Nat → Int} {q : Int} (h : mayB m q = true) : ∀ j, j < 64 → 8 ≤ m j := by
  unfold mayB at h; rw [Bool.and_eq_true] at h; exact vld_true.1 h.1
theorem badQ (y m : Nat → Int) (q : Int) (h : mayB m q = false) : (qz y m q = fun _ => 0) ∧ qe y m q = 1 := by unfold qz qe; simp [h]
theorem outQ (y m : Nat → Int) (q : Int) (h : mayB m q = true) (h2 : inside (lvs y m q) 4095 64 = false) : (qz y m q = fun _ => 0) ∧ qe y m q = 2 := by unfold qz qe; simp [h, h2]
theorem goodQ (y m : Nat → Int) (q : Int) (h : mayB m q = true) (h2 : inside (lvs y m q) 4095 64 = true) : qz y m q = lvs y m q ∧ qe y m q = 0 := by unfold qz qe; simp [h, h2]
theorem badD (y m : Nat → Int) (q : Int) (h : mayB m q = false) : (dz y m q = fun _ => 0) ∧ de y m q = 1 := by unfold dz de; simp [h]
theorem outD (y m : Nat → Int) (q : Int) (h : mayB m q = true) (h2 : inside y 4095 64 = false) : (dz y m q = fun _ => 0) ∧ de y m q = 2 := by unfold dz de; simp [h, h2]
theorem goodD (y m : Nat → Int) (q : Int) (h : mayB m q = true) (h2 : inside y 4095 64 = true) : dz y m q = dqs y m q ∧ de y m q = 0 := by unfold dz de; simp [h, h2]
theorem lvl_mul_bd {l s : Int} (h : -4095 ≤ l ∧ l ≤ 4095) (hs : 160 ≤ s ∧ s ≤ 284580) : -1165355100 ≤ l * s ∧ l * s ≤ 1165355100 := by
  have := mul_bd (A := 4095) (B := 284580) h (b := s) (by omega)
  omega

set_option maxHeartbeats 2000000 in
set_option maxRecDepth 100000 in
theorem refDeq_any (w : World) (y m : Nat → Int) (q : Int) (hy : I64 64 y) (hm : U8 m) :
    Calls Try.prog 24 #[.agg (arr .i64 64 y), .agg (arr .u8 64 m), .int .i64 q] w fun e w' => e = .returned (.tuple #[.agg (arr .i64 64 (dz y m q)), .int .i64 (de y m q)]) ∧ Only [] w w' := by
  go_enter Try.func24, Try.ntmps24
  go_wp2_with (first | (refine bx64 (x := y) rfl rfl rfl ?_; rintro g1 w1 b1 o1 l1) | (refine bx8 (x := m) rfl rfl rfl ?_; rintro g2 w2 b2 o2 l2) | (refine al64 rfl rfl ?_; rintro g3 w3 b3 o3 l3) | (have h2 := b2.only o3 (by simp); refine ld8 h2 rfl rfl rfl ?_))
  have hz1 := o1.size
  have hz2 := o2.size
  have hz3 := o3.size
  have hl1 := b1.lt
  have hl2 := b2.lt
  have hl3 := b3.lt
  have hy3 := (b1.only o2 (by simp)).only o3 (by simp)
  have ho3 := (o1.then o2).then o3
  clear o1 o2 o3 b1 b2
  refine (may_any _ m q).mono ?_
  rintro e w4 ⟨rfl, o4⟩
  have ho4 := ho3.then o4
  have hy4 := hy3.only o4 (by simp)
  have hm4 := h2.only o4 (by simp)
  have hr4 := b3.only o4 (by simp)
  have hz4 := o4.size
  clear o4 hy3 h2 b3 ho3
  cases hmay : mayB m q with
  | false =>
    have E := Lib.hid (badD y m q hmay)
    clear hmay
    go_wp2_with (first | refine bld64 rfl rfl ?_ | (refine sr64 hr4 rfl rfl rfl rfl ?_; rintro wz bz oz ez))
    exact bodyPost_ret (res2_64 rfl bz rfl) rfl ⟨by rw [E.out.1, E.out.2]; rfl, (ho4).own oz (by omega)⟩
  | true =>
    have hq : 1 ≤ q ∧ q ≤ 31 := may_q hmay
    have hv := may_v hmay
    have HM := Lib.hid hmay
    clear hmay
    go_wp2_with (first | (refine al64 rfl rfl ?_; rintro g4 w5 b5 o5 l5) | (have hy5' := hy4.only o5 (by simp); refine ld64 (x := y) (g := g1) hy5' rfl rfl rfl ?_))
    have ho5 := ho4.then o5
    have hy5 := hy4.only o5 (by simp)
    have hm5 := hm4.only o5 (by simp)
    have hr5 := hr4.only o5 (by simp)
    clear o5 hy4 hm4 hr4 ho4
    go_loopw [9] (fun i wr => ∃ k : Nat, k ≤ 64 ∧ i = .int .i64 k ∧ Only [] w wr ∧ Only [g4] w5 wr ∧ Blk wr g4 30 (arr .i64 64 (upto k (dqs y m q))) ∧ inside y 4095 k = true) (fun i _ => 64 - (intOf i).toNat)
    case atStart => exact ⟨0, by omega, rfl, ho5, Only.refl _ _, by rw [arr_upto_zero]; exact b5, rfl⟩
    case round =>
      obtain ⟨k, hk, rfl, ho, hoo, hb, hin⟩ := hrel
      have Hin := Lib.hid hin
      clear hin
      by_cases hlt : k < 64
      · have hd : decide ((k : Int) < 64) = true := by simp; omega
        have hyk := hy k hlt
        have hmk0 := hm k hlt
        have hmk : 8 ≤ m k ∧ m k ≤ 255 := ⟨hv k hlt, hmk0.2⟩
        have hs := mqg_bd hmk hq hlt
        have cy := (hy5.only hoo (by simp; omega)).cell k
        rw [arr_get hlt] at cy
        have cm := (hm5.only hoo (by simp; omega)).cell k
        rw [arr_get hlt] at cm
        have hcg := hb.cell k
        rw [arr_get hlt] at hcg
        have hfz := hb.frozen k
        have hr := hr5.only hoo (by simp; omega)
        have fy : ∀ w', Cls wr w' → w'.cell? ⟨g1, k, none⟩ = some (.int .i64 (y k)) := fun w' h => h.cell cy
        have fm : ∀ w', Cls wr w' → w'.cell? ⟨g2, k, none⟩ = some (.int .u8 (m k)) := fun w' h => h.cell cm
        by_cases h1 : y k < -4095
        · have d1 : decide (y k < -4095) = true := by simpa using h1
          have E := Lib.hid (outD y m q HM.out (inside_false hlt (by omega)))
          go_wp2_with (first | refine bld64 rfl rfl ?_ | (refine sr64 hr rfl rfl rfl rfl ?_; rintro wz bz oz ez))
          exact bodyPost_ret (res2_64 rfl bz rfl) rfl ⟨by rw [E.out.1, E.out.2]; rfl, (ho).own oz (by omega)⟩
        · have d1 : decide (y k < -4095) = false := by simpa using h1
          by_cases h2 : 4095 < y k
          · have d2 : decide (4095 < y k) = true := by simpa using h2
            have E := Lib.hid (outD y m q HM.out (inside_false hlt (by omega)))
            go_wp2_with (first | refine bld64 rfl rfl ?_ | (refine sr64 hr rfl rfl rfl rfl ?_; rintro wz bz oz ez))
            exact bodyPost_ret (res2_64 rfl bz rfl) rfl ⟨by rw [E.out.1, E.out.2]; rfl, (ho).own oz (by omega)⟩
          · have d2 : decide (4095 < y k) = false := by simpa using h2
            have hp := lvl_mul_bd (l := y k) (by omega) hs
            have Hn := Lib.hid (inside_succ (m := 4095) Hin.out ⟨by omega, by omega⟩)
            go_wp2_with fail
            refine rgnT (Cls wr) 12 (by kernel_rfl) (by kernel_rfl) Cls.refl ?_
            simp only [List.take_succ_cons, List.take_zero, List.drop_succ_cons, List.drop_zero]
            repeat (first | (refine qU rfl ?_; simp only [Act.put, List.setIfInBounds_toArray, List.set_cons_zero, List.set_cons_succ]) | (refine qW ?_ rfl rfl (fun w hC K hK => ?_) ?_; rotate_left; (focus ((go_wp2_with fail) <;> exact hK _ hC)); simp only [Act.put, List.setIfInBounds_toArray, List.set_cons_zero, List.set_cons_succ]))
            refine qC (fun w hC => Calls.cls hC (refStep_in w (m k) q k hmk hq hlt)) rfl (fun w => ?_) ?_
            · go_simp; try rfl
            simp only [Act.put, List.setIfInBounds_toArray, List.set_cons_zero, List.set_cons_succ]
            repeat (first | (refine qU rfl ?_; simp only [Act.put, List.setIfInBounds_toArray, List.set_cons_zero, List.set_cons_succ]) | (refine qW ?_ rfl rfl (fun w hC K hK => ?_) ?_; rotate_left; (focus ((go_wp2_with fail) <;> exact hK _ hC)); simp only [Act.put, List.setIfInBounds_toArray, List.set_cons_zero, List.set_cons_succ]))
            refine qN ?_
            intro w' hw'
            have hb3 := hw'.blk hb
            have c3 := hb3.cell k
            rw [arr_get hlt] at c3
            have fz3 := hb3.frozen k
            obtain ⟨s1, s2⟩ := hb3.set1 k (.int .i64 (y k * (m k * q * Gk k)))
            rw [arr_set_upto (x := dqs y m q) (v := y k * (m k * q * Gk k)) hlt rfl] at s1
            have On := Lib.hid ((ho.then hw'.only).own s2 (by omega))
            have Onn := Lib.hid ((hoo.then hw'.only).same s2)
            have Hb := Lib.hid s1
            clear s1 s2
            go_wp2_with fail
            exact ⟨⟨k + 1, by omega, by go_num, On.out, Onn.out, Hb.out, Hn.out⟩, by simp [intOf]; omega⟩
      · obtain rfl : k = 64 := by omega
        rw [arr_upto_all (by omega)] at hb
        have E := Lib.hid (goodD y m q HM.out Hin.out)
        have h3 := hr5.only hoo (by simp; omega)
        go_wp2_with (first | refine ld64 hb rfl rfl rfl ?_ | (refine sr64 h3 rfl rfl rfl rfl ?_; rintro wz bz oz ez))
        exact bodyPost_ret (res2_64 rfl bz rfl) rfl ⟨by rw [E.out.1, E.out.2]; rfl, ho.own oz (by omega)⟩

theorem lv_bd {y s : Int} (hy : -9223372036854775808 ≤ y ∧ y ≤ 9223372036854775807) (hs : 160 ≤ s ∧ s ≤ 284580) : -57646075230342350 ≤ lv y s ∧ lv y s ≤ 57646075230342350 := by
  by_cases h : y < 0
  · obtain ⟨z, rfl⟩ : ∃ z, y = -z := ⟨-y, by omega⟩
    rw [lv_neg (by omega) (by omega)]
    have := div160 (z := z) (s := s) (by omega) (by omega)
    have := div_le (z := z) (s := s) (by omega) (by omega)
    split <;> omega
  · rw [lv_pos (by omega) (by omega)]
    have := div160 (z := y) (s := s) (by omega) (by omega)
    have := div_le (z := y) (s := s) (by omega) (by omega)
    split <;> omega

set_option maxHeartbeats 2000000 in
set_option maxRecDepth 100000 in
theorem refQuant_any (w : World) (y m : Nat → Int) (q : Int) (hy : I64 64 y) (hm : U8 m) :
    Calls Try.prog 20 #[.agg (arr .i64 64 y), .agg (arr .u8 64 m), .int .i64 q] w fun e w' => e = .returned (.tuple #[.agg (arr .i64 64 (qz y m q)), .int .i64 (qe y m q)]) ∧ Only [] w w' := by
  go_enter Try.func20, Try.ntmps20
  go_wp2_with (first | (refine bx64 (x := y) rfl rfl rfl ?_; rintro g1 w1 b1 o1 l1) | (refine bx8 (x := m) rfl rfl rfl ?_; rintro g2 w2 b2 o2 l2) | (refine al64 rfl rfl ?_; rintro g3 w3 b3 o3 l3) | (have h2 := b2.only o3 (by simp); refine ld8 h2 rfl rfl rfl ?_))
  have hz1 := o1.size
  have hz2 := o2.size
  have hz3 := o3.size
  have hl1 := b1.lt
  have hl2 := b2.lt
  have hl3 := b3.lt
  have hy3 := (b1.only o2 (by simp)).only o3 (by simp)
  have ho3 := (o1.then o2).then o3
  clear o1 o2 o3 b1 b2
  refine (may_any _ m q).mono ?_
  rintro e w4 ⟨rfl, o4⟩
  have ho4 := ho3.then o4
  have hy4 := hy3.only o4 (by simp)
  have hm4 := h2.only o4 (by simp)
  have hr4 := b3.only o4 (by simp)
  have hz4 := o4.size
  clear o4 hy3 h2 b3 ho3
  cases hmay : mayB m q with
  | false =>
    have E := Lib.hid (badQ y m q hmay)
    clear hmay
    go_wp2_with (first | refine bld64 rfl rfl ?_ | (refine sr64 hr4 rfl rfl rfl rfl ?_; rintro wz bz oz ez))
    exact bodyPost_ret (res2_64 rfl bz rfl) rfl ⟨by rw [E.out.1, E.out.2]; rfl, (ho4).own oz (by omega)⟩
  | true =>
    have hq : 1 ≤ q ∧ q ≤ 31 := may_q hmay
    have hv := may_v hmay
    have HM := Lib.hid hmay
    clear hmay
    go_wp2_with (first | (refine al64 rfl rfl ?_; rintro g4 w5 b5 o5 l5) | (have hy5' := hy4.only o5 (by simp); refine ld64 (x := y) (g := g1) hy5' rfl rfl rfl ?_))
    have ho5 := ho4.then o5
    have hy5 := hy4.only o5 (by simp)
    have hm5 := hm4.only o5 (by simp)
    have hr5 := hr4.only o5 (by simp)
    clear o5 hy4 hm4 hr4 ho4
    go_loopw [9] (fun i wr => ∃ k : Nat, k ≤ 64 ∧ i = .int .i64 k ∧ Only [] w wr ∧ Only [g4] w5 wr ∧ Blk wr g4 30 (arr .i64 64 (upto k (lvs y m q))) ∧ inside (lvs y m q) 4095 k = true) (fun i _ => 64 - (intOf i).toNat)
    case atStart => exact ⟨0, by omega, rfl, ho5, Only.refl _ _, by rw [arr_upto_zero]; exact b5, rfl⟩
    case round =>
      obtain ⟨k, hk, rfl, ho, hoo, hb, hin⟩ := hrel
      have Hin := Lib.hid hin
      clear hin
      by_cases hlt : k < 64
      · have hd : decide ((k : Int) < 64) = true := by simp; omega
        have hyk := hy k hlt
        have hmk0 := hm k hlt
        have hmk : 8 ≤ m k ∧ m k ≤ 255 := ⟨hv k hlt, hmk0.2⟩
        have hs := mqg_bd hmk hq hlt
        have cy := (hy5.only hoo (by simp; omega)).cell k
        rw [arr_get hlt] at cy
        have cm := (hm5.only hoo (by simp; omega)).cell k
        rw [arr_get hlt] at cm
        have hcg := hb.cell k
        rw [arr_get hlt] at hcg
        have hfz := hb.frozen k
        have hr := hr5.only hoo (by simp; omega)
        have fy : ∀ w', Cls wr w' → w'.cell? ⟨g1, k, none⟩ = some (.int .i64 (y k)) := fun w' h => h.cell cy
        have fm : ∀ w', Cls wr w' → w'.cell? ⟨g2, k, none⟩ = some (.int .u8 (m k)) := fun w' h => h.cell cm
        have hl : lvs y m q k = lv (y k) (m k * q * Gk k) := rfl
        have HL := Lib.hid hl
        clear hl
        have hnb := lv_bd hyk hs
        generalize hlv : lv (y k) (m k * q * Gk k) = v at HL hnb
        have HV := Lib.hid hlv
        clear hlv
        go_wp2_with fail
        refine rgnT (Cls wr) 12 (by kernel_rfl) (by kernel_rfl) Cls.refl ?_
        simp only [List.take_succ_cons, List.take_zero, List.drop_succ_cons, List.drop_zero]
        repeat (first | (refine qU rfl ?_; simp only [Act.put, List.setIfInBounds_toArray, List.set_cons_zero, List.set_cons_succ]) | (refine qW ?_ rfl rfl (fun w hC K hK => ?_) ?_; rotate_left; (focus ((go_wp2_with fail) <;> exact hK _ hC)); simp only [Act.put, List.setIfInBounds_toArray, List.set_cons_zero, List.set_cons_succ]))
        refine qC (fun w hC => Calls.cls hC (refStep_in w (m k) q k hmk hq hlt)) rfl (fun w => ?_) ?_
        · go_simp; try rfl
        simp only [Act.put, List.setIfInBounds_toArray, List.set_cons_zero, List.set_cons_succ]
        refine qC (fun w hC => Calls.cls_same hC (HV.out ▸ refNear_any w (y k) (m k * q * Gk k) hyk hs)) rfl (fun w => ?_) ?_
        · go_simp; try rfl
        simp only [Act.put, List.setIfInBounds_toArray, List.set_cons_zero, List.set_cons_succ]
        refine qN ?_
        intro w' hw'
        have hb3 := hw'.blk hb
        have c3 := hb3.cell k
        rw [arr_get hlt] at c3
        have fz3 := hb3.frozen k
        obtain ⟨s1, s2⟩ := hb3.set1 k (.int .i64 v)
        rw [arr_set_upto (x := lvs y m q) hlt HL.out] at s1
        have c4 := s1.cell k
        rw [arr_get hlt] at c4
        unfold upto at c4
        rw [if_pos (Nat.lt_succ_self k), HL.out] at c4
        have r4 := ((hw'.blk hr).apart s2 (by omega))
        have On := (ho.then hw'.only).own s2 (by omega)
        have Onn := (hoo.then hw'.only).same s2
        have Hb := Lib.hid s1
        clear s1 s2
        by_cases h1 : v < -4095
        · have d1 : decide (v < -4095) = true := by simpa using h1
          have E := Lib.hid (outQ y m q HM.out (inside_false hlt (by rw [HL.out]; omega)))
          go_wp2_with (first | refine bld64 rfl rfl ?_ | (refine sr64 r4 rfl rfl rfl rfl ?_; rintro wz bz oz ez))
          exact bodyPost_ret (res2_64 rfl bz rfl) rfl ⟨by rw [E.out.1, E.out.2]; rfl, (On).own oz (by omega)⟩
        · have d1 : decide (v < -4095) = false := by simpa using h1
          by_cases h2 : 4095 < v
          · have d2 : decide (4095 < v) = true := by simpa using h2
            have E := Lib.hid (outQ y m q HM.out (inside_false hlt (by rw [HL.out]; omega)))
            go_wp2_with (first | refine bld64 rfl rfl ?_ | (refine sr64 r4 rfl rfl rfl rfl ?_; rintro wz bz oz ez))
            exact bodyPost_ret (res2_64 rfl bz rfl) rfl ⟨by rw [E.out.1, E.out.2]; rfl, (On).own oz (by omega)⟩
          · have d2 : decide (4095 < v) = false := by simpa using h2
            have Hn := Lib.hid (inside_succ (m := 4095) Hin.out (by rw [HL.out]; omega))
            have On := Lib.hid On
            have Onn := Lib.hid Onn
            go_wp2_with fail
            exact ⟨⟨k + 1, by omega, by go_num, On.out, Onn.out, Hb.out, Hn.out⟩, by simp [intOf]; omega⟩
      · obtain rfl : k = 64 := by omega
        rw [arr_upto_all (by omega)] at hb
        have E := Lib.hid (goodQ y m q HM.out Hin.out)
        have h3 := hr5.only hoo (by simp; omega)
        go_wp2_with (first | refine ld64 hb rfl rfl rfl ?_ | (refine sr64 h3 rfl rfl rfl rfl ?_; rintro wz bz oz ez))
        exact bodyPost_ret (res2_64 rfl bz rfl) rfl ⟨by rw [E.out.1, E.out.2]; rfl, ho.own oz (by omega)⟩

set_option maxHeartbeats 2000000 in
set_option maxRecDepth 100000 in
theorem deq_any (w : World) (y m : Nat → Int) (q : Int) (hy : I64 64 y) (hm : U8 m) :
    Calls Try.prog 23 #[.agg (arr .i64 64 y), .agg (arr .u8 64 m), .int .i64 q] w fun e w' => e = .returned (.tuple #[.agg (arr .i64 64 (dz y m q)), .int .i64 (de y m q)]) ∧ Only [] w w' := by
  go_enter Try.func23, Try.ntmps23
  go_wp2_with (first | (refine bx64 (x := y) rfl rfl rfl ?_; rintro g1 w1 b1 o1 l1) | (refine bx8 (x := m) rfl rfl rfl ?_; rintro g2 w2 b2 o2 l2) | (refine al64 rfl rfl ?_; rintro g3 w3 b3 o3 l3) | (have h2 := b2.only o3 (by simp); refine ld8 h2 rfl rfl rfl ?_))
  have hz1 := o1.size
  have hz2 := o2.size
  have hz3 := o3.size
  have hl1 := b1.lt
  have hl2 := b2.lt
  have hl3 := b3.lt
  have hy3 := (b1.only o2 (by simp)).only o3 (by simp)
  have ho3 := (o1.then o2).then o3
  clear o1 o2 o3 b1 b2
  refine (valid_any _ m).mono ?_
  rintro e w4 ⟨rfl, o4⟩
  have ho4 := ho3.then o4
  have hy4 := hy3.only o4 (by simp)
  have hm4 := h2.only o4 (by simp)
  have hr4 := b3.only o4 (by simp)
  have hz4 := o4.size
  clear o4 hy3 h2 b3 ho3
  cases hv : vld m 64 with
  | false =>
    have E := Lib.hid (badD y m q (by unfold mayB; rw [hv]; rfl))
    clear hv
    go_wp2_with (first | refine bld64 rfl rfl ?_ | (refine sr64 hr4 rfl rfl rfl rfl ?_; rintro wz bz oz ez))
    exact bodyPost_ret (res2_64 rfl bz rfl) rfl ⟨by rw [E.out.1, E.out.2]; rfl, (ho4).own oz (by omega)⟩
  | true =>
   go_wp2_with fail
   refine (vq_any _ q).mono ?_
   rintro e wv ⟨rfl, rfl⟩
   cases hq0 : vq q with
   | false =>
    have E := Lib.hid (badD y m q (by unfold mayB; rw [hq0]; simp))
    clear hv hq0
    go_wp2_with (first | refine bld64 rfl rfl ?_ | (refine sr64 hr4 rfl rfl rfl rfl ?_; rintro wz bz oz ez))
    exact bodyPost_ret (res2_64 rfl bz rfl) rfl ⟨by rw [E.out.1, E.out.2]; rfl, (ho4).own oz (by omega)⟩
   | true =>
    have hmay : mayB m q = true := by unfold mayB; rw [hv, hq0]; rfl
    clear hv hq0
    have hq : 1 ≤ q ∧ q ≤ 31 := may_q hmay
    have hv := may_v hmay
    have HM := Lib.hid hmay
    clear hmay
    go_wp2_with (first | (refine al64 rfl rfl ?_; rintro g4 w5 b5 o5 l5) | (have hy5' := hy4.only o5 (by simp); refine ld64 (x := y) (g := g1) hy5' rfl rfl rfl ?_))
    have ho5 := ho4.then o5
    have hy5 := hy4.only o5 (by simp)
    have hm5 := hm4.only o5 (by simp)
    have hr5 := hr4.only o5 (by simp)
    clear o5 hy4 hm4 hr4 ho4
    go_loopw [21] (fun i wr => ∃ k : Nat, k ≤ 64 ∧ i = .int .i64 k ∧ Only [] w wr ∧ Only [g4] w5 wr ∧ Blk wr g4 30 (arr .i64 64 (upto k (dqs y m q))) ∧ inside y 4095 k = true) (fun i _ => 64 - (intOf i).toNat)
    case atStart => exact ⟨0, by omega, rfl, ho5, Only.refl _ _, by rw [arr_upto_zero]; exact b5, rfl⟩
    case round =>
      obtain ⟨k, hk, rfl, ho, hoo, hb, hin⟩ := hrel
      have Hin := Lib.hid hin
      clear hin
      by_cases hlt : k < 64
      · have hd : decide ((k : Int) < 64) = true := by simp; omega
        have hyk := hy k hlt
        have hmk0 := hm k hlt
        have hmk : 8 ≤ m k ∧ m k ≤ 255 := ⟨hv k hlt, hmk0.2⟩
        have hs := mqg_bd hmk hq hlt
        have cy := (hy5.only hoo (by simp; omega)).cell k
        rw [arr_get hlt] at cy
        have cm := (hm5.only hoo (by simp; omega)).cell k
        rw [arr_get hlt] at cm
        have hcg := hb.cell k
        rw [arr_get hlt] at hcg
        have hfz := hb.frozen k
        have hr := hr5.only hoo (by simp; omega)
        have fy : ∀ w', Cls wr w' → w'.cell? ⟨g1, k, none⟩ = some (.int .i64 (y k)) := fun w' h => h.cell cy
        have fm : ∀ w', Cls wr w' → w'.cell? ⟨g2, k, none⟩ = some (.int .u8 (m k)) := fun w' h => h.cell cm
        have hat := idx64 y k hlt
        by_cases h1 : y k < -4095
        · have d1 : decide (y k < -4095) = true := by simpa using h1
          have E := Lib.hid (outD y m q HM.out (inside_false hlt (by omega)))
          go_wp2_with (first | refine bld64 rfl rfl ?_ | (refine sr64 hr rfl rfl rfl rfl ?_; rintro wz bz oz ez))
          exact bodyPost_ret (res2_64 rfl bz rfl) rfl ⟨by rw [E.out.1, E.out.2]; rfl, (ho).own oz (by omega)⟩
        · have d1 : decide (y k < -4095) = false := by simpa using h1
          by_cases h2 : 4095 < y k
          · have d2 : decide (4095 < y k) = true := by simpa using h2
            have E := Lib.hid (outD y m q HM.out (inside_false hlt (by omega)))
            go_wp2_with (first | refine bld64 rfl rfl ?_ | (refine sr64 hr rfl rfl rfl rfl ?_; rintro wz bz oz ez))
            exact bodyPost_ret (res2_64 rfl bz rfl) rfl ⟨by rw [E.out.1, E.out.2]; rfl, (ho).own oz (by omega)⟩
          · have d2 : decide (4095 < y k) = false := by simpa using h2
            have hp := lvl_mul_bd (l := y k) (by omega) hs
            have Hn := Lib.hid (inside_succ (m := 4095) Hin.out ⟨by omega, by omega⟩)
            go_wp2_with fail
            refine (step_in _ (m k) q k hmk hq hlt).mono ?_
            rintro e wq ⟨rfl, oq⟩
            have hb3 := hb.only oq (by simp)
            have c3 := hb3.cell k
            rw [arr_get hlt] at c3
            have fz3 := hb3.frozen k
            obtain ⟨s1, s2⟩ := hb3.set1 k (.int .i64 (y k * (m k * q * Gk k)))
            rw [arr_set_upto (x := dqs y m q) (v := y k * (m k * q * Gk k)) hlt rfl] at s1
            have On := Lib.hid ((ho.then oq).own s2 (by omega))
            have Onn := Lib.hid ((hoo.then oq).same s2)
            have Hb := Lib.hid s1
            clear s1 s2
            go_wp2_with fail
            exact ⟨⟨k + 1, by omega, by go_num, On.out, Onn.out, Hb.out, Hn.out⟩, by simp [intOf]; omega⟩
      · obtain rfl : k = 64 := by omega
        rw [arr_upto_all (by omega)] at hb
        have E := Lib.hid (goodD y m q HM.out Hin.out)
        have h3 := hr5.only hoo (by simp; omega)
        go_wp2_with (first | refine ld64 hb rfl rfl rfl ?_ | (refine sr64 h3 rfl rfl rfl rfl ?_; rintro wz bz oz ez))
        exact bodyPost_ret (res2_64 rfl bz rfl) rfl ⟨by rw [E.out.1, E.out.2]; rfl, ho.own oz (by omega)⟩
end Go.Proofs.Ytdcbkmjmakogeaa
